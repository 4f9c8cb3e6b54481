import Derived.Test.YtkhooaaidmoogaaDoorFsTab
import Derived.Test.YtkhooaaidmoogaaDoorMb
import Derived.KernelRfl
import Derived.Test.YtkhooaaidmoogaaDoorMc
import Derived.Test.YtkhooaaidmoogaaDoorMd
namespace Go.Proofs.YtkhooaaidmoogaaDoor
open Go Go.Sx
open Go.RowKit (Below)
set_option maxRecDepth 100000

def primeL : List Int := [18446744073709551597, 18446744073709551615, 18446744073709551615, 9223372036854775807]
def eighthL : List Int := [18446744073709551614, 18446744073709551615, 18446744073709551615, 1152921504606846975]
def quarterL : List Int := [18446744073709551611, 18446744073709551615, 18446744073709551615, 2305843009213693951]
def less2L : List Int := [18446744073709551595, 18446744073709551615, 18446744073709551615, 9223372036854775807]
def orderL : List Int := [6346243789798364141, 1503914060200516822, 0, 1152921504606846976]

/-- What is taken of the listed variables. -/
abbrev glF : List (Nat × IntKind × List Int) := [(1, .u64, primeL), (3, .u64, eighthL), (4, .u64, quarterL), (2, .u64, less2L)]
abbrev GF : World → Prop := GOf glF
def gmF : Mem := gmOf glF
theorem GF_keep (w w' : World) (hb : Below w.heap.size w w') (h : GF w) : GF w' := GOf_keep glF w w' hb h
theorem gmF_is : GlobIs GF gmF := gmOf_is glF

noncomputable def body (f : Func) : Code := f.body.getD .skip
noncomputable def exts : List (Nat × (List SV → T SV)) := [(56, spG n3 add64F), (68, spG n3 sub64F)]
noncomputable abbrev cxF (fns : List (Nat × (List SV → T SV))) : Cx := cxOf (tabOf tabL) exts fns
noncomputable abbrev runF (fns : List (Nat × (List SV → T SV))) (bl : Blocks) (fuel : Nat) (f : Func) (args : List SV) : T SV := runX (cxF fns) bl fuel f (body f) args gmF
abbrev no : Blocks := fun _ => none

theorem exts_ok : ExtsOk Tryd.prog exts :=
  ⟨add64_ext (run_callFunc_extern Tryd.func56 (by kernel_rfl) (by kernel_rfl) (by kernel_rfl) (e := add64Entry) (by kernel_rfl)),
   sub64_ext (run_callFunc_extern Tryd.func68 (by kernel_rfl) (by kernel_rfl) (by kernel_rfl) (e := sub64Entry) (by kernel_rfl)), trivial⟩

theorem cxF_ok {fns : List (Nat × (List SV → T SV))} (h : FnsOk Tryd.prog GF fns) : CxOk Tryd.prog GF (cxF fns) := cxOk_of tab_ok exts_ok h GF_keep (by kernel_rfl)

theorem run66 (x y : Int) : runX (cxF []) no 100 Tryd.f58 (body Tryd.f58) (can n2 [.n x, .n y]) gmF = .ret (.tup [.int .u64 (IntKind.u64.wrap (IntKind.u64.wrap (IntKind.u64.wrap (shrI .u64 x 32 * shrI .u64 y 32) + shrI .u64 (IntKind.u64.wrap (IntKind.u64.wrap (shrI .u64 x 32 * bitsI .and .u64 y 4294967295) + shrI .u64 (IntKind.u64.wrap (bitsI .and .u64 x 4294967295 * bitsI .and .u64 y 4294967295)) 32)) 32) +
      shrI .u64 (IntKind.u64.wrap (bitsI .and .u64 (IntKind.u64.wrap (IntKind.u64.wrap (shrI .u64 x 32 * bitsI .and .u64 y 4294967295) + shrI .u64 (IntKind.u64.wrap (bitsI .and .u64 x 4294967295 * bitsI .and .u64 y 4294967295)) 32)) 4294967295 + IntKind.u64.wrap (bitsI .and .u64 x 4294967295 * shrI .u64 y 32))) 32)), .int .u64 (IntKind.u64.wrap (x * y))]) := by kernel_rfl

theorem noBl {c : Code} : ∀ Γ : Gam, Γ.G = GF → Γ.G Γ.w0 → GlobOk Γ → Γ.n0 = 0 → BlocksIn Tryd.prog Γ no c := fun _ _ _ _ _ => blocksIn_none c

theorem fn66 : FnOk Tryd.prog GF 58 (spG n2 mul64F) := by
  refine fnOk_of (cxF_ok (fns := []) trivial) gmF_is Tryd.func58 (c := body Tryd.f58) (by kernel_rfl) (enters_of Tryd.func58 (by kernel_rfl) (by kernel_rfl)) (bl := no) (fuel := 100) mul64F_ids noBl ?_
  intro xs v hfit hr
  obtain ⟨x, y, rfl⟩ := fit_n2 hfit
  simp only [mul64F, T.reach_need, T.reach_ret] at hr
  obtain ⟨⟨hx, hy⟩, rfl⟩ := hr
  refine ⟨closed_two _ _, ?_⟩
  rw [run66]
  simp only [T.good]
  rw [mul64_hi x y hx hy, wrap_u64]
end Go.Proofs.YtkhooaaidmoogaaDoor

namespace Go.Proofs.YtkhooaaidmoogaaDoor
open Go Go.Sx
set_option maxRecDepth 100000

theorem run74 (h l a b : Int) : runX (cxF [(58, spG n2 mul64F)]) no 100 Tryd.f75 (body Tryd.f75) (can n4 [.n h, .n l, .n a, .n b]) gmF = T.need (((0 : Int) ≤ h ∧ h < (18446744073709551616 : Int)) ∧ (0 : Int) ≤ l ∧ l < (18446744073709551616 : Int)) (T.need ((0 : Int) ≤ h * l % (18446744073709551616 : Int) ∧ (0 : Int) ≤ a ∧ (0 : Int) ≤ (0 : Int) ∧ (0 : Int) ≤ (1 : Int)) (T.need ((0 : Int) ≤ (h * l % (18446744073709551616 : Int) + a + (0 : Int)) % (18446744073709551616 : Int) ∧ (0 : Int) ≤ b ∧ (0 : Int) ≤ (0 : Int) ∧ (0 : Int) ≤ (1 : Int)) (T.ret (SV.tup [SV.int IntKind.u64 (((h * l % (18446744073709551616 : Int) + a + (0 : Int)) % (18446744073709551616 : Int) + b + (0 : Int)) % (18446744073709551616 : Int)), SV.int IntKind.u64 (IntKind.u64.wrap (IntKind.u64.wrap (h * l / (18446744073709551616 : Int) + (h * l % (18446744073709551616 : Int) + a + (0 : Int)) / (18446744073709551616 : Int)) + ((h * l % (18446744073709551616 : Int) + a + (0 : Int)) % (18446744073709551616 : Int) + b + (0 : Int)) / (18446744073709551616 : Int)))])))) := by kernel_rfl
theorem run51 (x0 x1 x2 x3 y0 y1 y2 y3 : Int) : runX (cxF []) no 100 Tryd.f61 (body Tryd.f61) (can l2 [.l [x0,x1,x2,x3], .l [y0,y1,y2,y3]]) gmF = T.need ((0 : Int) ≤ x0 ∧ (0 : Int) ≤ y0 ∧ (0 : Int) ≤ (0 : Int) ∧ (0 : Int) ≤ (1 : Int)) (T.need ((0 : Int) ≤ x1 ∧ (0 : Int) ≤ y1 ∧ (0 : Int) ≤ (x0 + y0 + (0 : Int)) / (18446744073709551616 : Int) ∧ (x0 + y0 + (0 : Int)) / (18446744073709551616 : Int) ≤ (1 : Int)) (T.need ((0 : Int) ≤ x2 ∧ (0 : Int) ≤ y2 ∧ (0 : Int) ≤ (x1 + y1 + (x0 + y0 + (0 : Int)) / (18446744073709551616 : Int)) / (18446744073709551616 : Int) ∧ (x1 + y1 + (x0 + y0 + (0 : Int)) / (18446744073709551616 : Int)) / (18446744073709551616 : Int) ≤ (1 : Int)) (T.need ((0 : Int) ≤ x3 ∧ (0 : Int) ≤ y3 ∧ (0 : Int) ≤ (x2 + y2 + (x1 + y1 + (x0 + y0 + (0 : Int)) / (18446744073709551616 : Int)) / (18446744073709551616 : Int)) / (18446744073709551616 : Int) ∧ (x2 + y2 + (x1 + y1 + (x0 + y0 + (0 : Int)) / (18446744073709551616 : Int)) / (18446744073709551616 : Int)) / (18446744073709551616 : Int) ≤ (1 : Int)) (T.ret (SV.tup [SV.ints IntKind.u64 (4 : Nat) [(x0 + y0 + (0 : Int)) % (18446744073709551616 : Int), (x1 + y1 + (x0 + y0 + (0 : Int)) / (18446744073709551616 : Int)) % (18446744073709551616 : Int), (x2 + y2 + (x1 + y1 + (x0 + y0 + (0 : Int)) / (18446744073709551616 : Int)) / (18446744073709551616 : Int)) % (18446744073709551616 : Int), (x3 + y3 + (x2 + y2 + (x1 + y1 + (x0 + y0 + (0 : Int)) / (18446744073709551616 : Int)) / (18446744073709551616 : Int)) / (18446744073709551616 : Int)) % (18446744073709551616 : Int)], SV.int IntKind.u64 ((x3 + y3 + (x2 + y2 + (x1 + y1 + (x0 + y0 + (0 : Int)) / (18446744073709551616 : Int)) / (18446744073709551616 : Int)) / (18446744073709551616 : Int)) / (18446744073709551616 : Int))]))))) := by kernel_rfl
theorem run68 (x0 x1 x2 x3 y0 y1 y2 y3 : Int) : runX (cxF []) no 100 Tryd.f53 (body Tryd.f53) (can l2 [.l [x0,x1,x2,x3], .l [y0,y1,y2,y3]]) gmF = T.need (((0 : Int) ≤ x0 ∧ x0 < (18446744073709551616 : Int)) ∧ ((0 : Int) ≤ y0 ∧ y0 < (18446744073709551616 : Int)) ∧ (0 : Int) ≤ (0 : Int) ∧ (0 : Int) ≤ (1 : Int)) (T.need (((0 : Int) ≤ x1 ∧ x1 < (18446744073709551616 : Int)) ∧ ((0 : Int) ≤ y1 ∧ y1 < (18446744073709551616 : Int)) ∧ ((0 : Int) ≤ if x0 < y0 + (0 : Int) then (1 : Int) else (0 : Int)) ∧ (if x0 < y0 + (0 : Int) then (1 : Int) else (0 : Int)) ≤ (1 : Int)) (T.need (((0 : Int) ≤ x2 ∧ x2 < (18446744073709551616 : Int)) ∧ ((0 : Int) ≤ y2 ∧ y2 < (18446744073709551616 : Int)) ∧ ((0 : Int) ≤ if x1 < y1 + if x0 < y0 + (0 : Int) then (1 : Int) else (0 : Int) then (1 : Int) else (0 : Int)) ∧ (if x1 < y1 + if x0 < y0 + (0 : Int) then (1 : Int) else (0 : Int) then (1 : Int) else (0 : Int)) ≤ (1 : Int)) (T.need (((0 : Int) ≤ x3 ∧ x3 < (18446744073709551616 : Int)) ∧ ((0 : Int) ≤ y3 ∧ y3 < (18446744073709551616 : Int)) ∧ ((0 : Int) ≤ if x2 < y2 + if x1 < y1 + if x0 < y0 + (0 : Int) then (1 : Int) else (0 : Int) then (1 : Int) else (0 : Int) then (1 : Int) else (0 : Int)) ∧ (if x2 < y2 + if x1 < y1 + if x0 < y0 + (0 : Int) then (1 : Int) else (0 : Int) then (1 : Int) else (0 : Int) then (1 : Int) else (0 : Int)) ≤ (1 : Int)) (T.ret (SV.tup [SV.ints IntKind.u64 (4 : Nat) [(x0 - y0 - (0 : Int)) % (18446744073709551616 : Int), (x1 - y1 - if x0 < y0 + (0 : Int) then (1 : Int) else (0 : Int)) % (18446744073709551616 : Int), (x2 - y2 - if x1 < y1 + if x0 < y0 + (0 : Int) then (1 : Int) else (0 : Int) then (1 : Int) else (0 : Int)) % (18446744073709551616 : Int), (x3 - y3 - if x2 < y2 + if x1 < y1 + if x0 < y0 + (0 : Int) then (1 : Int) else (0 : Int) then (1 : Int) else (0 : Int) then (1 : Int) else (0 : Int)) % (18446744073709551616 : Int)], SV.int IntKind.u64 (if x3 < y3 + if x2 < y2 + if x1 < y1 + if x0 < y0 + (0 : Int) then (1 : Int) else (0 : Int) then (1 : Int) else (0 : Int) then (1 : Int) else (0 : Int) then (1 : Int) else (0 : Int))]))))) := by kernel_rfl

theorem gF : GlobIs GF gmF := gmF_is
abbrev i4 : AK := .ints .u64 4
abbrev u6 : AK := .num .u64

abbrev stepC : List SV → T SV := ct n4 (fun | [.n a, .n b, .n c, .n d] => U64 [a, b, c, d] | _ => False) [u6, u6] (fun | [.n a, .n b, .n c, .n d] => [.n ((a * b + c + d) % 18446744073709551616), .n ((a * b + c + d) / 18446744073709551616)] | _ => [])
abbrev plusC : List SV → T SV := ct l2 (fun | [.l a, .l b] => U64 a ∧ U64 b | _ => False) [i4, u6] (fun | [.l a, .l b] => [.l (toL 4 (val a + val b)), .n ((val a + val b) / pw 4)] | _ => [])
abbrev minusC : List SV → T SV := ct l2 (fun | [.l a, .l b] => U64 a ∧ U64 b | _ => False) [i4, u6] (fun | [.l a, .l b] => [.l (toL 4 (val a - val b)), .n (if val a < val b then 1 else 0)] | _ => [])

theorem mulDivMod (a b c d : Int) (ha : 0 ≤ a ∧ a < 18446744073709551616) (hb : 0 ≤ b ∧ b < 18446744073709551616) (hc : 0 ≤ c ∧ c < 18446744073709551616) (hd : 0 ≤ d ∧ d < 18446744073709551616) :
    0 ≤ a * b ∧ (a * b + c + d) / 18446744073709551616 < 18446744073709551616 := by
  have h1 : a * b ≤ 18446744073709551615 * 18446744073709551615 := Int.mul_le_mul (by omega) (by omega) (by omega) (by omega)
  have h0 : 0 ≤ a * b := Int.mul_nonneg ha.1 hb.1
  generalize a * b = m at *
  omega

theorem fn74 : FnOk Tryd.prog GF 75 stepC := by
  refine fnOk_ct (cxF_ok (fns := [(58, spG n2 mul64F)]) ⟨fn66, trivial⟩) gF Tryd.func75 (c := body Tryd.f75) (by kernel_rfl) (enters_of Tryd.func75 (by kernel_rfl) (by kernel_rfl)) (bl := no) (fuel := 100) noBl ?_
  intro xs hfit hp
  obtain ⟨a, b, c, d, rfl⟩ := fit_n4 hfit
  have hq := u64_4.1 hp
  obtain ⟨ha, hb, hc, hd⟩ := hq
  have hm := mulDivMod a b c d ha hb hc hd
  refine ⟨by simp [fit, fit1], ?_⟩
  rw [run74]
  simp only [T.good]
  generalize a * b = m at *
  refine ⟨⟨ha, hb⟩, by omega, by omega, ?_⟩
  simp only [outV, can, can1, wrap_u64]
  congr 3
  · omega
  · congr 2
    omega

theorem fn51 : FnOk Tryd.prog GF 61 plusC := by
  refine fnOk_ct (cxF_ok (fns := []) trivial) gF Tryd.func61 (c := body Tryd.f61) (by kernel_rfl) (enters_of Tryd.func61 (by kernel_rfl) (by kernel_rfl)) (bl := no) (fuel := 100) noBl ?_
  intro xs hfit hp
  obtain ⟨a, b, rfl, ha, hb⟩ := fit_l2 hfit
  obtain ⟨x0, x1, x2, x3, rfl⟩ := len4 ha
  obtain ⟨y0, y1, y2, y3, rfl⟩ := len4 hb
  obtain ⟨u1, u2⟩ := hp
  have hq := u64_4.1 u1
  obtain ⟨a0, a1, a2, a3⟩ := hq
  have hq := u64_4.1 u2
  obtain ⟨b0, b1, b2, b3⟩ := hq
  have e := addL_eq 4 [x0, x1, x2, x3] [y0, y1, y2, y3] 0 rfl rfl
  rw [Int.add_zero] at e
  simp only [addL] at e
  refine ⟨by simp [fit, fit1, toL_length], ?_⟩
  rw [run51]
  simp only [T.good]
  refine ⟨by omega, by omega, by omega, by omega, ?_⟩
  simp only [outV, can, can1, ← (Prod.mk.inj e).1, ← (Prod.mk.inj e).2]

theorem bit (p : Prop) [Decidable p] : (0 : Int) ≤ (if p then 1 else 0) ∧ (if p then (1 : Int) else 0) ≤ 1 := by split <;> omega

theorem fn68 : FnOk Tryd.prog GF 53 minusC := by
  refine fnOk_ct (cxF_ok (fns := []) trivial) gF Tryd.func53 (c := body Tryd.f53) (by kernel_rfl) (enters_of Tryd.func53 (by kernel_rfl) (by kernel_rfl)) (bl := no) (fuel := 100) noBl ?_
  intro xs hfit hp
  obtain ⟨a, b, rfl, ha, hb⟩ := fit_l2 hfit
  obtain ⟨x0, x1, x2, x3, rfl⟩ := len4 ha
  obtain ⟨y0, y1, y2, y3, rfl⟩ := len4 hb
  obtain ⟨u1, u2⟩ := hp
  have hq := u64_4.1 u1
  obtain ⟨a0, a1, a2, a3⟩ := hq
  have hq := u64_4.1 u2
  obtain ⟨b0, b1, b2, b3⟩ := hq
  have e := subL_eq 4 [x0, x1, x2, x3] [y0, y1, y2, y3] 0 rfl rfl u1 u2 (by omega) (by omega)
  rw [Int.sub_zero, Int.add_zero] at e
  simp only [subL] at e
  refine ⟨by simp [fit, fit1, toL_length], ?_⟩
  rw [run68]
  simp only [T.good]
  refine ⟨⟨a0, b0, by omega⟩, ⟨a1, b1, bit _⟩, ⟨a2, b2, bit _⟩, ⟨a3, b3, bit _⟩, ?_⟩
  simp only [outV, can, can1, ← (Prod.mk.inj e).1, ← (Prod.mk.inj e).2]
end Go.Proofs.YtkhooaaidmoogaaDoor

/- Package scalar: what it takes of the listed variables; the closure. -/
namespace Go.Proofs.YtkhooaaidmoogaaDoor
open Go Go.Sx
open Go.RowKit (Below)
set_option maxRecDepth 100000

/-- Nothing is taken of the listed variables. -/
def GT (_ : World) : Prop := True
abbrev gmT : Mem := []
theorem gT : GlobIs GT gmT := ⟨fun i b h => by simp [Sx.look] at h, fun w _ i b h => by simp [Sx.look] at h⟩
theorem cxT_ok {fns : List (Nat × (List SV → T SV))} (h : FnsOk Tryd.prog GT fns) : CxOk Tryd.prog GT (cxF fns) := cxOk_of tab_ok exts_ok h (fun _ _ _ h => h) (by kernel_rfl)
theorem noBlT {c : Code} : ∀ Γ : Gam, Γ.G = GT → Γ.G Γ.w0 → GlobOk Γ → Γ.n0 = 0 → BlocksIn Tryd.prog Γ no c := fun _ _ _ _ _ => blocksIn_none c

/-- What is taken of scalar's variable. -/
abbrev glS : List (Nat × IntKind × List Int) := [(0, .u64, orderL)]
abbrev GS : World → Prop := GOf glS
def gmS : Mem := gmOf glS
theorem GS_keep (w w' : World) (hb : Below w.heap.size w w') (h : GS w) : GS w' := GOf_keep glS w w' hb h
theorem gS : GlobIs GS gmS := gmOf_is glS
theorem cxS_ok {fns : List (Nat × (List SV → T SV))} (h : FnsOk Tryd.prog GS fns) : CxOk Tryd.prog GS (cxF fns) := cxOk_of tab_ok exts_ok h GS_keep (by kernel_rfl)
theorem noBlS {c : Code} : ∀ Γ : Gam, Γ.G = GS → Γ.G Γ.w0 → GlobOk Γ → Γ.n0 = 0 → BlocksIn Tryd.prog Γ no c := fun _ _ _ _ _ => blocksIn_none c

theorem run66T (x y : Int) : runX (cxF []) no 100 Tryd.f58 (body Tryd.f58) (can n2 [.n x, .n y]) gmT = .ret (.tup [.int .u64 (IntKind.u64.wrap (IntKind.u64.wrap (IntKind.u64.wrap (shrI .u64 x 32 * shrI .u64 y 32) + shrI .u64 (IntKind.u64.wrap (IntKind.u64.wrap (shrI .u64 x 32 * bitsI .and .u64 y 4294967295) + shrI .u64 (IntKind.u64.wrap (bitsI .and .u64 x 4294967295 * bitsI .and .u64 y 4294967295)) 32)) 32) +
      shrI .u64 (IntKind.u64.wrap (bitsI .and .u64 (IntKind.u64.wrap (IntKind.u64.wrap (shrI .u64 x 32 * bitsI .and .u64 y 4294967295) + shrI .u64 (IntKind.u64.wrap (bitsI .and .u64 x 4294967295 * bitsI .and .u64 y 4294967295)) 32)) 4294967295 + IntKind.u64.wrap (bitsI .and .u64 x 4294967295 * shrI .u64 y 32))) 32)), .int .u64 (IntKind.u64.wrap (x * y))]) := by kernel_rfl
theorem fn66T : FnOk Tryd.prog GT 58 (spG n2 mul64F) := by
  refine fnOk_of (cxT_ok (fns := []) trivial) gT Tryd.func58 (c := body Tryd.f58) (by kernel_rfl) (enters_of Tryd.func58 (by kernel_rfl) (by kernel_rfl)) (bl := no) (fuel := 100) mul64F_ids noBlT ?_
  intro xs v hfit hr
  obtain ⟨x, y, rfl⟩ := fit_n2 hfit
  simp only [mul64F, T.reach_need, T.reach_ret] at hr
  obtain ⟨⟨hx, hy⟩, rfl⟩ := hr
  refine ⟨closed_two _ _, ?_⟩
  rw [run66T]
  simp only [T.good]
  rw [mul64_hi x y hx hy, wrap_u64]

def m64T (x y c : Int) (k : Int → Int → T SV) : T SV := .need ((0 ≤ x ∧ x < 18446744073709551616) ∧ (0 ≤ y ∧ y < 18446744073709551616) ∧ 0 ≤ c ∧ c ≤ 1) (k ((x - y - c) % 18446744073709551616) (if x < y + c then 1 else 0))
theorem run68T (x0 x1 x2 x3 y0 y1 y2 y3 : Int) : runX (cxF []) no 100 Tryd.f53 (body Tryd.f53) (can l2 [.l [x0,x1,x2,x3], .l [y0,y1,y2,y3]]) gmT =
  (m64T x0 y0 0 fun r0 c => m64T x1 y1 c fun r1 c => m64T x2 y2 c fun r2 c => m64T x3 y3 c fun r3 c => .ret (.tup [.ints .u64 4 [r0, r1, r2, r3], .int .u64 c])) := by kernel_rfl
theorem fn68T : FnOk Tryd.prog GT 53 minusC := by
  refine fnOk_ct (cxT_ok (fns := []) trivial) gT Tryd.func53 (c := body Tryd.f53) (by kernel_rfl) (enters_of Tryd.func53 (by kernel_rfl) (by kernel_rfl)) (bl := no) (fuel := 100) noBlT ?_
  intro xs hfit hp
  obtain ⟨a, b, rfl, ha, hb⟩ := fit_l2 hfit
  obtain ⟨x0, x1, x2, x3, rfl⟩ := len4 ha
  obtain ⟨y0, y1, y2, y3, rfl⟩ := len4 hb
  obtain ⟨u1, u2⟩ := hp
  have hq := u64_4.1 u1
  obtain ⟨a0, a1, a2, a3⟩ := hq
  have hq := u64_4.1 u2
  obtain ⟨b0, b1, b2, b3⟩ := hq
  have e := subL_eq 4 [x0, x1, x2, x3] [y0, y1, y2, y3] 0 rfl rfl u1 u2 (by omega) (by omega)
  rw [Int.sub_zero, Int.add_zero] at e
  simp only [subL] at e
  refine ⟨by simp [fit, fit1, toL_length], ?_⟩
  rw [run68T]
  simp only [m64T, T.good]
  refine ⟨⟨a0, b0, by omega⟩, ⟨a1, b1, bit _⟩, ⟨a2, b2, bit _⟩, ⟨a3, b3, bit _⟩, ?_⟩
  simp only [outV, can, can1, ← (Prod.mk.inj e).1, ← (Prod.mk.inj e).2]
theorem fn68S : FnOk Tryd.prog GS 53 minusC := fn68T.mono fun _ _ => trivial

/-- The context in which 'left' runs: 'minus' by its contract, the closure walked into. -/
noncomputable abbrev cxL0 : Cx := cxF [(53, minusC)]
noncomputable abbrev cxL : Cx := cxL0.withInl (inlOne 74 (inlFn cxL0 no 100 Tryd.f74 (body Tryd.f74)))
theorem cxL_ok : CxOk Tryd.prog GS cxL :=
  cxInl_ok (cxS_ok (fns := [(53, minusC)]) ⟨fn68S, trivial⟩) Tryd.func74 (by kernel_rfl) (enters_of Tryd.func74 (by kernel_rfl) (by kernel_rfl)) fun Γ _ _ _ => blocksIn_none _
end Go.Proofs.YtkhooaaidmoogaaDoor

namespace Go.Proofs.YtkhooaaidmoogaaDoor
open Go Go.Sx
set_option maxRecDepth 100000

def stepT (a b c d : Int) (k : Int → Int → T SV) : T SV := .need (U64 [a, b, c, d]) (k ((a * b + c + d) % 18446744073709551616) ((a * b + c + d) / 18446744073709551616))
def plusT (a b : List Int) (k : List Int → Int → T SV) : T SV := .need (U64 a ∧ U64 b) (k (toL 4 (val a + val b)) ((val a + val b) / pw 4))

theorem stepT_good {a b c d : Int} {k : Int → Int → T SV} {Q : SV → Prop} (ha : 0 ≤ a ∧ a < 18446744073709551616) (hb : 0 ≤ b ∧ b < 18446744073709551616) (hc : 0 ≤ c ∧ c < 18446744073709551616) (hd : 0 ≤ d ∧ d < 18446744073709551616)
    (h : ∀ lo hi, (0 ≤ lo ∧ lo < 18446744073709551616) → (0 ≤ hi ∧ hi < 18446744073709551616) → lo + 18446744073709551616 * hi = a * b + c + d → (k lo hi).good Q) : (stepT a b c d k).good Q := by
  have hm := mulDivMod a b c d ha hb hc hd
  refine ⟨u64_4.2 ⟨ha, hb, hc, hd⟩, h _ _ ?_ ?_ ?_⟩ <;> omega

theorem u64_8 {a b c d e f g h : Int} (ha : 0 ≤ a ∧ a < 18446744073709551616) (hb : 0 ≤ b ∧ b < 18446744073709551616) (hc : 0 ≤ c ∧ c < 18446744073709551616) (hd : 0 ≤ d ∧ d < 18446744073709551616) (he : 0 ≤ e ∧ e < 18446744073709551616) (hf : 0 ≤ f ∧ f < 18446744073709551616) (hg : 0 ≤ g ∧ g < 18446744073709551616) (hh : 0 ≤ h ∧ h < 18446744073709551616) : U64 [a, b, c, d, e, f, g, h] := by
  simp only [U64.cons]; exact ⟨ha, hb, hc, hd, he, hf, hg, hh, U64.nil⟩

theorem mul44 (x0 x1 x2 x3 y0 y1 y2 y3 : Int) : val [x0, x1, x2, x3] * val [y0, y1, y2, y3] = 1 * (x0 * y0) + 18446744073709551616 * (x0 * y1) + 340282366920938463463374607431768211456 * (x0 * y2) + 6277101735386680763835789423207666416102355444464034512896 * (x0 * y3) + 18446744073709551616 * (x1 * y0) + 340282366920938463463374607431768211456 * (x1 * y1) + 6277101735386680763835789423207666416102355444464034512896 * (x1 * y2) + 115792089237316195423570985008687907853269984665640564039457584007913129639936 * (x1 * y3) + 340282366920938463463374607431768211456 * (x2 * y0) + 6277101735386680763835789423207666416102355444464034512896 * (x2 * y1) + 115792089237316195423570985008687907853269984665640564039457584007913129639936 * (x2 * y2) + 2135987035920910082395021706169552114602704522356652769947041607822219725780640550022962086936576 * (x2 * y3) + 6277101735386680763835789423207666416102355444464034512896 * (x3 * y0) + 115792089237316195423570985008687907853269984665640564039457584007913129639936 * (x3 * y1) + 2135987035920910082395021706169552114602704522356652769947041607822219725780640550022962086936576 * (x3 * y2) + 39402006196394479212279040100143613805079739270465446667948293404245721771497210611414266254884915640806627990306816 * (x3 * y3) := by
  simp only [val]
  grind

def prodT (x0 x1 x2 x3 y0 y1 y2 y3 : Int) : T SV :=
  stepT x0 y0 0 0 fun l00 h00 =>
  stepT x0 y1 0 h00 fun l01 h01 =>
  stepT x0 y2 0 h01 fun l02 h02 =>
  stepT x0 y3 0 h02 fun l03 h03 =>
  stepT x1 y0 l01 0 fun l10 h10 =>
  stepT x1 y1 l02 h10 fun l11 h11 =>
  stepT x1 y2 l03 h11 fun l12 h12 =>
  stepT x1 y3 h03 h12 fun l13 h13 =>
  stepT x2 y0 l11 0 fun l20 h20 =>
  stepT x2 y1 l12 h20 fun l21 h21 =>
  stepT x2 y2 l13 h21 fun l22 h22 =>
  stepT x2 y3 h13 h22 fun l23 h23 =>
  stepT x3 y0 l21 0 fun l30 h30 =>
  stepT x3 y1 l22 h30 fun l31 h31 =>
  stepT x3 y2 l23 h31 fun l32 h32 =>
  stepT x3 y3 h23 h32 fun l33 h33 =>
  .ret (.ints .u64 8 [l00, l10, l20, l30, l31, l32, l33, h33])

theorem run55 (x0 x1 x2 x3 y0 y1 y2 y3 : Int) : runX (cxF [(75, stepC)]) no 100 Tryd.f60 (body Tryd.f60) (can l2 [.l [x0,x1,x2,x3], .l [y0,y1,y2,y3]]) gmF = prodT x0 x1 x2 x3 y0 y1 y2 y3 := by kernel_rfl

theorem prodT_good (x0 x1 x2 x3 y0 y1 y2 y3 : Int) (bx0 : 0 ≤ x0 ∧ x0 < 18446744073709551616) (bx1 : 0 ≤ x1 ∧ x1 < 18446744073709551616) (bx2 : 0 ≤ x2 ∧ x2 < 18446744073709551616) (bx3 : 0 ≤ x3 ∧ x3 < 18446744073709551616) (by0 : 0 ≤ y0 ∧ y0 < 18446744073709551616) (by1 : 0 ≤ y1 ∧ y1 < 18446744073709551616) (by2 : 0 ≤ y2 ∧ y2 < 18446744073709551616) (by3 : 0 ≤ y3 ∧ y3 < 18446744073709551616) : (prodT x0 x1 x2 x3 y0 y1 y2 y3).good fun u => u = .ints .u64 8 (toL 8 (val [x0, x1, x2, x3] * val [y0, y1, y2, y3])) := by
  have b0 : 0 ≤ (0 : Int) ∧ (0 : Int) < 18446744073709551616 := by omega
  unfold prodT
  refine stepT_good bx0 by0 b0 b0 fun l00 h00 bl00 bh00 el00 => ?_
  refine stepT_good bx0 by1 b0 bh00 fun l01 h01 bl01 bh01 el01 => ?_
  refine stepT_good bx0 by2 b0 bh01 fun l02 h02 bl02 bh02 el02 => ?_
  refine stepT_good bx0 by3 b0 bh02 fun l03 h03 bl03 bh03 el03 => ?_
  refine stepT_good bx1 by0 bl01 b0 fun l10 h10 bl10 bh10 el10 => ?_
  refine stepT_good bx1 by1 bl02 bh10 fun l11 h11 bl11 bh11 el11 => ?_
  refine stepT_good bx1 by2 bl03 bh11 fun l12 h12 bl12 bh12 el12 => ?_
  refine stepT_good bx1 by3 bh03 bh12 fun l13 h13 bl13 bh13 el13 => ?_
  refine stepT_good bx2 by0 bl11 b0 fun l20 h20 bl20 bh20 el20 => ?_
  refine stepT_good bx2 by1 bl12 bh20 fun l21 h21 bl21 bh21 el21 => ?_
  refine stepT_good bx2 by2 bl13 bh21 fun l22 h22 bl22 bh22 el22 => ?_
  refine stepT_good bx2 by3 bh13 bh22 fun l23 h23 bl23 bh23 el23 => ?_
  refine stepT_good bx3 by0 bl21 b0 fun l30 h30 bl30 bh30 el30 => ?_
  refine stepT_good bx3 by1 bl22 bh30 fun l31 h31 bl31 bh31 el31 => ?_
  refine stepT_good bx3 by2 bl23 bh31 fun l32 h32 bl32 bh32 el32 => ?_
  refine stepT_good bx3 by3 bh23 bh32 fun l33 h33 bl33 bh33 el33 => ?_
  simp only [T.good]
  have hu : U64 [l00, l10, l20, l30, l31, l32, l33, h33] := u64_8 bl00 bl10 bl20 bl30 bl31 bl32 bl33 bh33
  rw [show toL 8 (val [x0, x1, x2, x3] * val [y0, y1, y2, y3]) = toL 8 (val [l00, l10, l20, l30, l31, l32, l33, h33]) from ?_]
  · have := toL_val hu; simp only [List.length_cons, List.length_nil] at this; rw [this]
  · congr 1
    have e : val [x0, x1, x2, x3] * val [y0, y1, y2, y3] = 1 * (x0 * y0) + 18446744073709551616 * (x0 * y1) + 340282366920938463463374607431768211456 * (x0 * y2) + 6277101735386680763835789423207666416102355444464034512896 * (x0 * y3) + 18446744073709551616 * (x1 * y0) + 340282366920938463463374607431768211456 * (x1 * y1) + 6277101735386680763835789423207666416102355444464034512896 * (x1 * y2) + 115792089237316195423570985008687907853269984665640564039457584007913129639936 * (x1 * y3) + 340282366920938463463374607431768211456 * (x2 * y0) + 6277101735386680763835789423207666416102355444464034512896 * (x2 * y1) + 115792089237316195423570985008687907853269984665640564039457584007913129639936 * (x2 * y2) + 2135987035920910082395021706169552114602704522356652769947041607822219725780640550022962086936576 * (x2 * y3) + 6277101735386680763835789423207666416102355444464034512896 * (x3 * y0) + 115792089237316195423570985008687907853269984665640564039457584007913129639936 * (x3 * y1) + 2135987035920910082395021706169552114602704522356652769947041607822219725780640550022962086936576 * (x3 * y2) + 39402006196394479212279040100143613805079739270465446667948293404245721771497210611414266254884915640806627990306816 * (x3 * y3) := mul44 x0 x1 x2 x3 y0 y1 y2 y3
    rw [e]; clear e hu
    simp only [val]
    generalize x0 * y0 = p00 at *
    generalize x0 * y1 = p01 at *
    generalize x0 * y2 = p02 at *
    generalize x0 * y3 = p03 at *
    generalize x1 * y0 = p10 at *
    generalize x1 * y1 = p11 at *
    generalize x1 * y2 = p12 at *
    generalize x1 * y3 = p13 at *
    generalize x2 * y0 = p20 at *
    generalize x2 * y1 = p21 at *
    generalize x2 * y2 = p22 at *
    generalize x2 * y3 = p23 at *
    generalize x3 * y0 = p30 at *
    generalize x3 * y1 = p31 at *
    generalize x3 * y2 = p32 at *
    generalize x3 * y3 = p33 at *
    omega
end Go.Proofs.YtkhooaaidmoogaaDoor

namespace Go.Proofs.YtkhooaaidmoogaaDoor
open Go Go.Sx
set_option maxRecDepth 100000

abbrev i8 : AK := .ints .u64 8
abbrev prodC : List SV → T SV := ct l2 (fun | [.l a, .l b] => U64 a ∧ U64 b | _ => False) [i8] (fun | [.l a, .l b] => [.l (toL 8 (val a * val b))] | _ => [])

theorem fn55 : FnOk Tryd.prog GF 60 prodC := by
  refine fnOk_ct (cxF_ok (fns := [(75, stepC)]) ⟨fn74, trivial⟩) gF Tryd.func60 (c := body Tryd.f60) (by kernel_rfl) (enters_of Tryd.func60 (by kernel_rfl) (by kernel_rfl)) (bl := no) (fuel := 100) noBl ?_
  intro xs hfit hp
  obtain ⟨a, b, rfl, ha, hb⟩ := fit_l2 hfit
  obtain ⟨x0, x1, x2, x3, rfl⟩ := len4 ha
  obtain ⟨y0, y1, y2, y3, rfl⟩ := len4 hb
  obtain ⟨u1, u2⟩ := hp
  have u1 := u64_4.1 u1
  have u2 := u64_4.1 u2
  refine ⟨by simp [fit, fit1, toL_length], ?_⟩
  rw [run55]
  exact prodT_good x0 x1 x2 x3 y0 y1 y2 y3 u1.1 u1.2.1 u1.2.2.1 u1.2.2.2 u2.1 u2.2.1 u2.2.2.1 u2.2.2.2

def belowT (x0 x1 x2 x3 : Int) : T SV :=
  plusT [x0, x1, x2, bitsI .and .u64 x3 9223372036854775807] [IntKind.u64.wrap (19 * shrI .u64 x3 63), 0, 0, 0] fun a _ =>
  plusT a [19, 0, 0, 0] fun more _ =>
  .ite (shrI .u64 (more.getD 3 0) 63 == 0) (.ret (.ints .u64 4 a)) (.ret (.ints .u64 4 (more.set 3 (bitsI .and .u64 (more.getD 3 0) 9223372036854775807))))

theorem run52 (x0 x1 x2 x3 : Int) : runX (cxF [(61, plusC)]) no 100 Tryd.f51 (body Tryd.f51) (can l1 [.l [x0, x1, x2, x3]]) gmF = belowT x0 x1 x2 x3 := by kernel_rfl

def foldT (n0 n1 n2 n3 n4 n5 n6 n7 : Int) : T SV :=
  stepT n4 38 n0 0 fun a0 c =>
  stepT n5 38 n1 c fun a1 c =>
  stepT n6 38 n2 c fun a2 c =>
  stepT n7 38 n3 c fun a3 c =>
  plusT [a0, a1, a2, a3] [IntKind.u64.wrap (38 * c), 0, 0, 0] fun a c =>
  plusT a [IntKind.u64.wrap (38 * c), 0, 0, 0] fun a _ =>
  .need (U64 a) (.ret (.ints .u64 4 (toL 4 (val a % 57896044618658097711785492504343953926634992332820282019728792003956564819949))))

abbrev P25 : Int := 57896044618658097711785492504343953926634992332820282019728792003956564819949
abbrev belowC : List SV → T SV := ct l1 (fun | [.l a] => U64 a | _ => False) [i4] (fun | [.l a] => [.l (toL 4 (val a % P25))] | _ => [])
theorem run54 (n0 n1 n2 n3 n4 n5 n6 n7 : Int) : runX (cxF [(61, plusC), (75, stepC), (51, belowC)]) no 100 Tryd.f59 (body Tryd.f59) (can [i8] [.l [n0, n1, n2, n3, n4, n5, n6, n7]]) gmF = foldT n0 n1 n2 n3 n4 n5 n6 n7 := by kernel_rfl

theorem pw4len (a b c d : Int) : pw [a, b, c, d].length = 115792089237316195423570985008687907853269984665640564039457584007913129639936 := by
  simp only [List.length_cons, List.length_nil, pw]; decide

theorem plusT_good {a b : List Int} {k : List Int → Int → T SV} {Q : SV → Prop} (ua : U64 a) (ub : U64 b)
    (h : ∀ r0 r1 r2 r3 c, (0 ≤ r0 ∧ r0 < 18446744073709551616) → (0 ≤ r1 ∧ r1 < 18446744073709551616) → (0 ≤ r2 ∧ r2 < 18446744073709551616) → (0 ≤ r3 ∧ r3 < 18446744073709551616) →
      val [r0, r1, r2, r3] + 115792089237316195423570985008687907853269984665640564039457584007913129639936 * c = val a + val b → (k [r0, r1, r2, r3] c).good Q) : (plusT a b k).good Q := by
  refine ⟨⟨ua, ub⟩, ?_⟩
  obtain ⟨r0, r1, r2, r3, e⟩ := len4 (toL_length 4 (val a + val b))
  have hu := toL_u64 4 (val a + val b)
  have hv := val_toL 4 (val a + val b)
  rw [e] at hu hv
  have hq := u64_4.1 hu
  have hp : pw 4 = 115792089237316195423570985008687907853269984665640564039457584007913129639936 := by decide
  have := h r0 r1 r2 r3 ((val a + val b) / pw 4) hq.1 hq.2.1 hq.2.2.1 hq.2.2.2 (by rw [hv, hp]; omega)
  rw [← e] at this
  exact this

theorem and63 (x : Int) (h : 0 ≤ x ∧ x < 18446744073709551616) : bitsI .and .u64 x 9223372036854775807 = x % 9223372036854775808 := by
  have e : bitsI .and .u64 x 9223372036854775807 = ((x.toNat &&& 9223372036854775807 : Nat) : Int) := u64_and x 9223372036854775807 h.1 h.2 (by decide) (by decide)
  rw [e, show (9223372036854775807 : Nat) = 2 ^ 63 - 1 from rfl, Nat.and_two_pow_sub_one_eq_mod]
  omega
theorem shr63 (x : Int) : shrI .u64 x 63 = x / 9223372036854775808 := shrI_u64 x 63 (by omega)

theorem toL4_of {r0 r1 r2 r3 n : Int} (h0 : 0 ≤ r0 ∧ r0 < 18446744073709551616) (h1 : 0 ≤ r1 ∧ r1 < 18446744073709551616) (h2 : 0 ≤ r2 ∧ r2 < 18446744073709551616) (h3 : 0 ≤ r3 ∧ r3 < 18446744073709551616) (h : val [r0, r1, r2, r3] = n) : [r0, r1, r2, r3] = toL 4 n := by
  subst h
  exact (toL_val (u64_4.2 ⟨h0, h1, h2, h3⟩)).symm

theorem belowT_good (x0 x1 x2 x3 : Int) (h0 : 0 ≤ x0 ∧ x0 < 18446744073709551616) (h1 : 0 ≤ x1 ∧ x1 < 18446744073709551616) (h2 : 0 ≤ x2 ∧ x2 < 18446744073709551616) (h3 : 0 ≤ x3 ∧ x3 < 18446744073709551616) :
    (belowT x0 x1 x2 x3).good fun u => u = .ints .u64 4 (toL 4 (val [x0, x1, x2, x3] % P25)) := by
  unfold belowT
  rw [and63 x3 h3, shr63, wrap_u64]
  have hh : x3 / 9223372036854775808 = 0 ∨ x3 / 9223372036854775808 = 1 := by omega
  have hx3 : x3 % 9223372036854775808 = x3 - 9223372036854775808 * (x3 / 9223372036854775808) := by omega
  have hm3 : 0 ≤ x3 % 9223372036854775808 ∧ x3 % 9223372036854775808 < 9223372036854775808 := by omega
  rw [show (19 * (x3 / 9223372036854775808)) % 18446744073709551616 = 19 * (x3 / 9223372036854775808) by omega]
  generalize hH : x3 / 9223372036854775808 = H at *
  generalize hT : x3 % 9223372036854775808 = t at *
  have hN : val [x0, x1, x2, x3] = val [x0, x1, x2, t] + 57896044618658097711785492504343953926634992332820282019728792003956564819968 * H := by simp only [val]; omega
  have hL : 0 ≤ val [x0, x1, x2, t] ∧ val [x0, x1, x2, t] < 57896044618658097711785492504343953926634992332820282019728792003956564819968 := by simp only [val]; omega
  refine plusT_good (u64_4.2 ⟨h0, h1, h2, by omega⟩) (u64_4.2 ⟨by omega, by omega, by omega, by omega⟩) fun r0 r1 r2 r3 c b0 b1 b2 b3 e => ?_
  refine plusT_good (u64_4.2 ⟨b0, b1, b2, b3⟩) (u64_4.2 ⟨by omega, by omega, by omega, by omega⟩) fun m0 m1 m2 m3 c' d0 d1 d2 d3 e' => ?_
  simp only [T.good, List.getD_cons_succ, List.getD_cons_zero, List.set, and63 m3 d3, shr63, beq_iff_eq, beq_eq_false_iff_ne, ne_eq]
  have e1 : val [19 * H, 0, 0, 0] = 19 * H := by simp only [val]; omega
  have e2 : val [19, 0, 0, 0] = 19 := rfl
  have vr := val_range (u64_4.2 ⟨b0, b1, b2, b3⟩)
  have vm := val_range (u64_4.2 ⟨d0, d1, d2, d3⟩)
  have hp : pw [r0, r1, r2, r3].length = 115792089237316195423570985008687907853269984665640564039457584007913129639936 := pw4len _ _ _ _
  have hp' : pw [m0, m1, m2, m3].length = 115792089237316195423570985008687907853269984665640564039457584007913129639936 := pw4len _ _ _ _
  rw [hp] at vr
  rw [hp'] at vm
  rw [e1] at e
  rw [e2] at e'
  have tm : val [m0, m1, m2, m3] = val [m0, m1, m2, m3 % 9223372036854775808] + 57896044618658097711785492504343953926634992332820282019728792003956564819968 * (m3 / 9223372036854775808) := by simp only [val]; omega
  have tl : 0 ≤ val [m0, m1, m2, m3 % 9223372036854775808] ∧ val [m0, m1, m2, m3 % 9223372036854775808] < 57896044618658097711785492504343953926634992332820282019728792003956564819968 := by simp only [val]; omega
  have hm : m3 / 9223372036854775808 = 0 ∨ m3 / 9223372036854775808 = 1 := by omega
  have hm4 : 0 ≤ m3 % 9223372036854775808 ∧ m3 % 9223372036854775808 < 18446744073709551616 := by omega
  rw [hN]
  generalize hV : val [x0, x1, x2, t] = V at *
  refine ⟨fun hb => ?_, fun hb => ?_⟩
  · have := toL4_of (n := (V + 57896044618658097711785492504343953926634992332820282019728792003956564819968 * H) % P25) b0 b1 b2 b3 (by
      generalize val [r0, r1, r2, r3] = R at *
      generalize val [m0, m1, m2, m3] = W at *
      generalize val [m0, m1, m2, m3 % 9223372036854775808] = W' at *
      generalize m3 / 9223372036854775808 = g at *
      clear hV hT hH hx3 hm3 hm4
      simp only [P25]
      rcases hh with rfl | rfl <;> omega)
    rw [this]
  · have := toL4_of (n := (V + 57896044618658097711785492504343953926634992332820282019728792003956564819968 * H) % P25) d0 d1 d2 hm4 (by
      generalize val [r0, r1, r2, r3] = R at *
      generalize val [m0, m1, m2, m3] = W at *
      generalize val [m0, m1, m2, m3 % 9223372036854775808] = W' at *
      generalize m3 / 9223372036854775808 = g at *
      clear hV hT hH hx3 hm3 hm4
      simp only [P25]
      rcases hh with rfl | rfl <;> omega)
    rw [this]

theorem fn52 : FnOk Tryd.prog GF 51 belowC := by
  refine fnOk_ct (cxF_ok (fns := [(61, plusC)]) ⟨fn51, trivial⟩) gF Tryd.func51 (c := body Tryd.f51) (by kernel_rfl) (enters_of Tryd.func51 (by kernel_rfl) (by kernel_rfl)) (bl := no) (fuel := 100) noBl ?_
  intro xs hfit hp
  obtain ⟨a, rfl, ha⟩ := fit_l1 hfit
  obtain ⟨x0, x1, x2, x3, rfl⟩ := len4 ha
  have u1 := u64_4.1 hp
  refine ⟨by simp [fit, fit1, toL_length], ?_⟩
  rw [run52]
  exact belowT_good x0 x1 x2 x3 u1.1 u1.2.1 u1.2.2.1 u1.2.2.2

theorem foldT_good (n0 n1 n2 n3 n4 n5 n6 n7 : Int) (h0 : 0 ≤ n0 ∧ n0 < 18446744073709551616) (h1 : 0 ≤ n1 ∧ n1 < 18446744073709551616) (h2 : 0 ≤ n2 ∧ n2 < 18446744073709551616) (h3 : 0 ≤ n3 ∧ n3 < 18446744073709551616) (h4 : 0 ≤ n4 ∧ n4 < 18446744073709551616) (h5 : 0 ≤ n5 ∧ n5 < 18446744073709551616) (h6 : 0 ≤ n6 ∧ n6 < 18446744073709551616) (h7 : 0 ≤ n7 ∧ n7 < 18446744073709551616) :
    (foldT n0 n1 n2 n3 n4 n5 n6 n7).good fun u => u = .ints .u64 4 (toL 4 (val [n0, n1, n2, n3, n4, n5, n6, n7] % P25)) := by
  unfold foldT
  refine stepT_good h4 (by omega) h0 (by omega) fun a0 c0 b0 k0 e0 => ?_
  refine stepT_good h5 (by omega) h1 k0 fun a1 c1 b1 k1 e1 => ?_
  refine stepT_good h6 (by omega) h2 k1 fun a2 c2 b2 k2 e2 => ?_
  refine stepT_good h7 (by omega) h3 k2 fun a3 c3 b3 k3 e3 => ?_
  have va := val_range (u64_4.2 ⟨b0, b1, b2, b3⟩)
  have hp : pw [a0, a1, a2, a3].length = 115792089237316195423570985008687907853269984665640564039457584007913129639936 := pw4len _ _ _ _
  rw [hp] at va
  have hN : val [n0, n1, n2, n3, n4, n5, n6, n7] = val [n0, n1, n2, n3] + 115792089237316195423570985008687907853269984665640564039457584007913129639936 * val [n4, n5, n6, n7] := by simp only [val]; omega
  have ea : val [a0, a1, a2, a3] + 115792089237316195423570985008687907853269984665640564039457584007913129639936 * c3 = val [n0, n1, n2, n3] + 38 * val [n4, n5, n6, n7] := by simp only [val]; omega
  have hc3 : c3 ≤ 38 := by omega
  rw [wrap_u64, show (38 * c3) % 18446744073709551616 = 38 * c3 by omega]
  refine plusT_good (u64_4.2 ⟨b0, b1, b2, b3⟩) (u64_4.2 ⟨by omega, by omega, by omega, by omega⟩) fun r0 r1 r2 r3 c d0 d1 d2 d3 e => ?_
  have e1 : val [38 * c3, 0, 0, 0] = 38 * c3 := by simp only [val]; omega
  rw [e1] at e
  have vr := val_range (u64_4.2 ⟨d0, d1, d2, d3⟩)
  rw [show pw [r0, r1, r2, r3].length = 115792089237316195423570985008687907853269984665640564039457584007913129639936 from pw4len _ _ _ _] at vr
  have hc : 0 ≤ c ∧ c ≤ 1 := by omega
  rw [wrap_u64, show (38 * c) % 18446744073709551616 = 38 * c by omega]
  refine plusT_good (u64_4.2 ⟨d0, d1, d2, d3⟩) (u64_4.2 ⟨by omega, by omega, by omega, by omega⟩) fun m0 m1 m2 m3 c' f0 f1 f2 f3 e' => ?_
  have e2 : val [38 * c, 0, 0, 0] = 38 * c := by simp only [val]; omega
  rw [e2] at e'
  have vm := val_range (u64_4.2 ⟨f0, f1, f2, f3⟩)
  rw [show pw [m0, m1, m2, m3].length = 115792089237316195423570985008687907853269984665640564039457584007913129639936 from pw4len _ _ _ _] at vm
  simp only [T.good]
  refine ⟨u64_4.2 ⟨f0, f1, f2, f3⟩, ?_⟩
  rw [hN]
  generalize val [m0, m1, m2, m3] = W at *
  generalize val [r0, r1, r2, r3] = R at *
  generalize val [a0, a1, a2, a3] = A at *
  generalize val [n0, n1, n2, n3] = B at *
  generalize val [n4, n5, n6, n7] = D at *
  clear hN e0 e1 e2 e3 b0 b1 b2 b3 d0 d1 d2 d3 f0 f1 f2 f3 hp
  have hc' : c' = 0 := by omega
  have : B + 115792089237316195423570985008687907853269984665640564039457584007913129639936 * D = W + P25 * (2 * D + 2 * c3 + 2 * c) := by simp only [P25]; omega
  rw [this, Int.add_mul_emod_self_left]

theorem fn54 : FnOk Tryd.prog GF 59 (ct [i8] (fun | [.l a] => U64 a | _ => False) [i4] (fun | [.l a] => [.l (toL 4 (val a % P25))] | _ => [])) := by
  refine fnOk_ct (cxF_ok (fns := [(61, plusC), (75, stepC), (51, belowC)]) ⟨fn51, fn74, fn52, trivial⟩) gF Tryd.func59 (c := body Tryd.f59) (by kernel_rfl) (enters_of Tryd.func59 (by kernel_rfl) (by kernel_rfl)) (bl := no) (fuel := 100) noBl ?_
  intro xs hfit hp
  obtain ⟨a, rfl, ha⟩ := fit_l1 hfit
  obtain ⟨n0, n1, n2, n3, n4, n5, n6, n7, rfl⟩ := len8 ha
  have u1 := hp
  simp only [U64.cons] at u1
  refine ⟨by simp [fit, fit1, toL_length], ?_⟩
  rw [run54]
  exact foldT_good n0 n1 n2 n3 n4 n5 n6 n7 u1.1 u1.2.1 u1.2.2.1 u1.2.2.2.1 u1.2.2.2.2.1 u1.2.2.2.2.2.1 u1.2.2.2.2.2.2.1 u1.2.2.2.2.2.2.2.1
end Go.Proofs.YtkhooaaidmoogaaDoor

namespace Go.Proofs.YtkhooaaidmoogaaDoor
open Go Go.Sx
set_option maxRecDepth 100000

abbrev foldC : List SV → T SV := ct [i8] (fun | [.l a] => U64 a | _ => False) [i4] (fun | [.l a] => [.l (toL 4 (val a % P25))] | _ => [])
def belT (a : List Int) (k : List Int → T SV) : T SV := .need (U64 a) (k (toL 4 (val a % P25)))
def s64T (x y c : Int) (k : Int → Int → T SV) : T SV := .need ((0 ≤ x ∧ x < 18446744073709551616) ∧ (0 ≤ y ∧ y < 18446744073709551616) ∧ 0 ≤ c ∧ c ≤ 1) (k ((x - y - c) % 18446744073709551616) (if x < y + c then 1 else 0))
abbrev l11 (x : List Int) : T SV := .ret (.ints .u64 4 x)

theorem run14 (a b : List Int) : runX (cxF [(61, plusC), (51, belowC)]) no 100 Tryd.f31 (body Tryd.f31) (can l2 [.l a, .l b]) gmF =
  (belT a fun a => belT b fun b => plusT a b fun s _ => belT s fun r => l11 r) := by kernel_rfl
abbrev addC : List SV → T SV := ct l2 (fun | [.l a, .l b] => U64 a ∧ U64 b | _ => False) [i4] (fun | [.l a, .l b] => [.l (toL 4 ((val a + val b) % P25))] | _ => [])
abbrev subC : List SV → T SV := ct l2 (fun | [.l a, .l b] => U64 a ∧ U64 b | _ => False) [i4] (fun | [.l a, .l b] => [.l (toL 4 ((val a - val b) % P25))] | _ => [])
abbrev mulC : List SV → T SV := ct l2 (fun | [.l a, .l b] => U64 a ∧ U64 b | _ => False) [i4] (fun | [.l a, .l b] => [.l (toL 4 ((val a * val b) % P25))] | _ => [])
abbrev negC : List SV → T SV := ct l1 (fun | [.l a] => U64 a | _ => False) [i4] (fun | [.l a] => [.l (toL 4 ((-val a) % P25))] | _ => [])
def add2T (a b : List Int) (k : List Int → T SV) : T SV := .need (U64 a ∧ U64 b) (k (toL 4 ((val a + val b) % P25)))
def mul2T (a b : List Int) (k : List Int → T SV) : T SV := .need (U64 a ∧ U64 b) (k (toL 4 ((val a * val b) % P25)))
def neg1T (a : List Int) (k : List Int → T SV) : T SV := .need (U64 a) (k (toL 4 ((-val a) % P25)))
def prod2T (a b : List Int) (k : List Int → T SV) : T SV := .need (U64 a ∧ U64 b) (k (toL 8 (val a * val b)))

theorem run16 (a b : List Int) : runX (cxF [(31, addC), (45, negC)]) no 100 Tryd.f34 (body Tryd.f34) (can l2 [.l a, .l b]) gmF =
  (neg1T b fun n => add2T a n fun r => l11 r) := by kernel_rfl
theorem run18 (a b : List Int) : runX (cxF [(59, foldC), (60, prodC)]) no 100 Tryd.f30 (body Tryd.f30) (can l2 [.l a, .l b]) gmF =
  (prod2T a b fun n => belT n fun r => l11 r) := by kernel_rfl
theorem run20 (a : List Int) : runX (cxF [(51, belowC)]) no 100 Tryd.f45 (body Tryd.f45) (can l1 [.l a]) gmF =
  (belT a fun a => s64T 18446744073709551597 (a.getD 0 0) 0 fun r0 c => s64T 18446744073709551615 (a.getD 1 0) c fun r1 c => s64T 18446744073709551615 (a.getD 2 0) c fun r2 c => s64T 9223372036854775807 (a.getD 3 0) c fun r3 _ => belT [r0, r1, r2, r3] fun r => l11 r) := by kernel_rfl
theorem modP (x : Int) : 0 ≤ x % P25 ∧ x % P25 < P25 := ⟨Int.emod_nonneg _ (by decide), Int.emod_lt_of_pos _ (by decide)⟩
theorem val_toL4 (n : Int) : val (toL 4 n) = n % 115792089237316195423570985008687907853269984665640564039457584007913129639936 := by
  rw [val_toL]; rw [show pw 4 = 115792089237316195423570985008687907853269984665640564039457584007913129639936 by decide]
theorem val_toLP (x : Int) : val (toL 4 (x % P25)) = x % P25 := by
  rw [val_toL4]
  have := modP x
  exact Int.emod_eq_of_lt this.1 (Int.lt_trans this.2 (by decide))
theorem fit_i4 (n : Int) : fit [i4] [.l (toL 4 n)] := by simp [fit, fit1, toL_length]

theorem fn14 : FnOk Tryd.prog GF 31 addC := by
  refine fnOk_ct (cxF_ok (fns := [(61, plusC), (51, belowC)]) ⟨fn51, fn52, trivial⟩) gF Tryd.func31 (c := body Tryd.f31) (by kernel_rfl) (enters_of Tryd.func31 (by kernel_rfl) (by kernel_rfl)) (bl := no) (fuel := 100) noBl ?_
  intro xs hfit hp
  obtain ⟨a, b, rfl, ha, hb⟩ := fit_l2 hfit
  obtain ⟨u1, u2⟩ := hp
  refine ⟨fit_i4 _, ?_⟩
  rw [run14]
  simp only [belT, plusT, T.good]
  refine ⟨u1, u2, ⟨toL_u64 _ _, toL_u64 _ _⟩, toL_u64 _ _, ?_⟩
  simp only [outV, can1, val_toLP]
  have h1 := modP (val a)
  have h2 := modP (val b)
  rw [val_toL4, Int.emod_eq_of_lt (a := val a % P25 + val b % P25) (by omega) (by simp only [P25] at *; omega), ← Int.add_emod]

theorem fn16 (h20 : FnOk Tryd.prog GF 45 negC) : FnOk Tryd.prog GF 34 subC := by
  refine fnOk_ct (cxF_ok (fns := [(31, addC), (45, negC)]) ⟨fn14, h20, trivial⟩) gF Tryd.func34 (c := body Tryd.f34) (by kernel_rfl) (enters_of Tryd.func34 (by kernel_rfl) (by kernel_rfl)) (bl := no) (fuel := 100) noBl ?_
  intro xs hfit hp
  obtain ⟨a, b, rfl, ha, hb⟩ := fit_l2 hfit
  obtain ⟨u1, u2⟩ := hp
  refine ⟨fit_i4 _, ?_⟩
  rw [run16]
  simp only [neg1T, add2T, T.good]
  refine ⟨u2, ⟨u1, toL_u64 _ _⟩, ?_⟩
  simp only [outV, can1, val_toLP]
  rw [Int.add_emod, Int.emod_emod_of_dvd _ (Int.dvd_refl P25), ← Int.add_emod, Int.sub_eq_add_neg]

theorem val_toL8 (n : Int) (h0 : 0 ≤ n) (h1 : n < 13407807929942597099574024998205846127479365820592393377723561443721764030073546976801874298166903427690031858186486050853753882811946569946433649006084096) : val (toL 8 n) = n := by
  rw [val_toL, show pw 8 = 13407807929942597099574024998205846127479365820592393377723561443721764030073546976801874298166903427690031858186486050853753882811946569946433649006084096 by decide]
  exact Int.emod_eq_of_lt h0 h1

theorem val4_range {a : List Int} (h : U64 a) (hl : a.length = 4) : 0 ≤ val a ∧ val a < 115792089237316195423570985008687907853269984665640564039457584007913129639936 := by
  have := val_range h
  rw [hl, show pw 4 = 115792089237316195423570985008687907853269984665640564039457584007913129639936 by decide] at this
  exact this

theorem fn18 : FnOk Tryd.prog GF 30 mulC := by
  refine fnOk_ct (cxF_ok (fns := [(59, foldC), (60, prodC)]) ⟨fn54, fn55, trivial⟩) gF Tryd.func30 (c := body Tryd.f30) (by kernel_rfl) (enters_of Tryd.func30 (by kernel_rfl) (by kernel_rfl)) (bl := no) (fuel := 100) noBl ?_
  intro xs hfit hp
  obtain ⟨a, b, rfl, ha, hb⟩ := fit_l2 hfit
  obtain ⟨u1, u2⟩ := hp
  have ra := val4_range u1 ha
  have rb := val4_range u2 hb
  have h0 : 0 ≤ val a * val b := Int.mul_nonneg ra.1 rb.1
  have h1 : val a * val b ≤ 115792089237316195423570985008687907853269984665640564039457584007913129639935 * 115792089237316195423570985008687907853269984665640564039457584007913129639935 := Int.mul_le_mul (by omega) (by omega) rb.1 (by omega)
  refine ⟨fit_i4 _, ?_⟩
  rw [run18]
  simp only [prod2T, belT, T.good]
  refine ⟨⟨u1, u2⟩, toL_u64 _ _, ?_⟩
  rw [val_toL8 _ h0 (by omega)]
  rfl

theorem fn20 : FnOk Tryd.prog GF 45 negC := by
  refine fnOk_ct (cxF_ok (fns := [(51, belowC)]) ⟨fn52, trivial⟩) gF Tryd.func45 (c := body Tryd.f45) (by kernel_rfl) (enters_of Tryd.func45 (by kernel_rfl) (by kernel_rfl)) (bl := no) (fuel := 100) noBl ?_
  intro xs hfit hp
  obtain ⟨a, rfl, ha⟩ := fit_l1 hfit
  have u1 : U64 a := hp
  obtain ⟨a0, a1, a2, a3, e⟩ := len4 (toL_length 4 (val a % P25))
  have ua : U64 [a0, a1, a2, a3] := e ▸ toL_u64 4 (val a % P25)
  have uq := u64_4.1 ua
  have hv := val_toLP (val a)
  rw [e] at hv
  have e2 := subL_eq 4 [18446744073709551597, 18446744073709551615, 18446744073709551615, 9223372036854775807] [a0, a1, a2, a3] 0 rfl rfl (u64_4.2 (by decide)) ua (by omega) (by omega)
  rw [Int.sub_zero, Int.add_zero, hv, show val [18446744073709551597, 18446744073709551615, 18446744073709551615, 9223372036854775807] = P25 by decide] at e2
  simp only [subL] at e2
  have hm := modP (val a)
  refine ⟨fit_i4 _, ?_⟩
  rw [run20]
  simp only [belT, s64T, T.good]
  rw [e]
  simp only [List.getD_cons_succ, List.getD_cons_zero]
  refine ⟨u1, ⟨by decide, uq.1, by decide⟩, ⟨by decide, uq.2.1, bit _⟩, ⟨by decide, uq.2.2.1, bit _⟩, ⟨by decide, uq.2.2.2, bit _⟩, ?_⟩
  rw [(Prod.mk.inj e2).1]
  refine ⟨toL_u64 _ _, ?_⟩
  rw [val_toL4, Int.emod_eq_of_lt (a := P25 - val a % P25) (by omega) (by simp only [P25] at *; omega)]
  simp only [outV, can1]
  have : (P25 - val a % P25) % P25 = (-val a) % P25 := by
    rw [show P25 - val a % P25 = -val a + P25 * (1 + val a / P25) by simp only [P25]; omega, Int.add_mul_emod_self_left]
  rw [this]

abbrev smallC : List SV → T SV := ct [u6] (fun _ => True) [i4] (fun | [.n n] => [.l [n, 0, 0, 0]] | _ => [])
abbrev sameC : List SV → T SV := ct l2 (fun | [.l a, .l b] => U64 a ∧ U64 b | _ => False) [.bool] (fun | [.l a, .l b] => [.b (decide (val a % P25 = val b % P25))] | _ => [])
abbrev oddC : List SV → T SV := ct l1 (fun | [.l a] => U64 a | _ => False) [.bool] (fun | [.l a] => [.b (decide (val a % P25 % 2 = 1))] | _ => [])

theorem run26 (n : Int) : runX (cxF []) no 100 Tryd.f32 (body Tryd.f32) (can [u6] [.n n]) gmF = .ret (.ints .u64 4 [n, 0, 0, 0]) := by kernel_rfl
theorem run27 (a b : List Int) : runX (cxF [(51, belowC)]) no 100 Tryd.f23 (body Tryd.f23) (can l2 [.l a, .l b]) gmF = (belT a fun a => belT b fun b => .ret (.bool (a == b))) := by kernel_rfl
theorem run29 (a : List Int) : runX (cxF [(51, belowC)]) no 100 Tryd.f73 (body Tryd.f73) (can l1 [.l a]) gmF = (belT a fun a => .ret (.bool (bitsI .and .u64 (a.getD 0 0) 1 == 1))) := by kernel_rfl

theorem fit_n1 {k : IntKind} {l : List AV} (h : fit [.num k] l) : ∃ x, l = [.n x] := by
  match l, h with
  | [a], h => cases a <;> first | exact ⟨_, rfl⟩ | exact h.1.elim
  | [], h => exact h.elim
  | _ :: _ :: _, h => exact h.2.elim

theorem fn26 : FnOk Tryd.prog GF 32 smallC := by
  refine fnOk_ct (cxF_ok (fns := []) trivial) gF Tryd.func32 (c := body Tryd.f32) (by kernel_rfl) (enters_of Tryd.func32 (by kernel_rfl) (by kernel_rfl)) (bl := no) (fuel := 100) noBl ?_
  intro xs hfit hp
  obtain ⟨n, rfl⟩ := fit_n1 hfit
  refine ⟨by simp [fit, fit1], ?_⟩
  rw [run26]
  rfl

theorem toLP_inj (x y : Int) : (toL 4 (x % P25) == toL 4 (y % P25)) = decide (x % P25 = y % P25) := by
  by_cases h : x % P25 = y % P25
  · rw [h]; simp
  · rw [decide_eq_false h]
    refine beq_eq_false_iff_ne.2 fun hc => h ?_
    rw [← val_toLP x, hc, val_toLP]

theorem fn27 : FnOk Tryd.prog GF 23 sameC := by
  refine fnOk_ct (cxF_ok (fns := [(51, belowC)]) ⟨fn52, trivial⟩) gF Tryd.func23 (c := body Tryd.f23) (by kernel_rfl) (enters_of Tryd.func23 (by kernel_rfl) (by kernel_rfl)) (bl := no) (fuel := 100) noBl ?_
  intro xs hfit hp
  obtain ⟨a, b, rfl, ha, hb⟩ := fit_l2 hfit
  obtain ⟨u1, u2⟩ := hp
  refine ⟨by simp [fit, fit1], ?_⟩
  rw [run27]
  simp only [belT, T.good]
  refine ⟨u1, u2, ?_⟩
  rw [toLP_inj]
  rfl

theorem and1 (x : Int) (h : 0 ≤ x ∧ x < 18446744073709551616) : bitsI .and .u64 x 1 = x % 2 := by
  have e : bitsI .and .u64 x 1 = ((x.toNat &&& 1 : Nat) : Int) := u64_and x 1 h.1 h.2 (by decide) (by decide)
  rw [e, nat_mask1]
  omega

theorem fn29 : FnOk Tryd.prog GF 73 oddC := by
  refine fnOk_ct (cxF_ok (fns := [(51, belowC)]) ⟨fn52, trivial⟩) gF Tryd.func73 (c := body Tryd.f73) (by kernel_rfl) (enters_of Tryd.func73 (by kernel_rfl) (by kernel_rfl)) (bl := no) (fuel := 100) noBl ?_
  intro xs hfit hp
  obtain ⟨a, rfl, ha⟩ := fit_l1 hfit
  have u1 : U64 a := hp
  refine ⟨by simp [fit, fit1], ?_⟩
  rw [run29]
  simp only [belT, T.good]
  refine ⟨u1, ?_⟩
  simp only [toL, List.getD_cons_zero, outV, can1]
  rw [and1 _ (by omega)]
  congr 1
  rw [show val a % P25 % 18446744073709551616 % 2 = val a % P25 % 2 by omega]
  by_cases h : val a % P25 % 2 = 1
  · rw [h]; rfl
  · rw [decide_eq_false h]; exact beq_eq_false_iff_ne.2 h
end Go.Proofs.YtkhooaaidmoogaaDoor

namespace Go.Proofs.YtkhooaaidmoogaaDoor
open Go Go.Sx
set_option maxRecDepth 100000

def Code.blk : Code → Nat → Option Code
  | .seq a b, i => match Code.blk a i with
    | some c => some c
    | none => Code.blk b i
  | .cond _ a b, i => match Code.blk a i with
    | some c => some c
    | none => Code.blk b i
  | .block j b, i => match Nat.beq j i with
    | true => some b
    | false => Code.blk b i
  | .loop b, i => Code.blk b i
  | .scope b, i => Code.blk b i
  | _, _ => none
def unloop : Option Code → Code
  | some (.loop b) => b
  | _ => .skip

def ptr0 (i : Nat) : SV := .ptr i 0 (.lit 0)
def junks : Nat → Nat → List SV
  | _, 0 => []
  | i, n + 1 => .junk i :: junks (i + 1) n
def ksP : Fg := ⟨[.keep, .keep, .keep, .keep, .keep, .keep, .junk, .junk, .junk, .soft] ++ List.replicate 21 .junk, 8, 7⟩
def invP (a n : List Int) (i : Int) (out : List Int) : St :=
  ⟨[.ints .u64 4 a, .ints .u64 4 n, ptr0 0, ptr0 1, ptr0 2, ptr0 4, .junk 6, .junk 7, .junk 8, .int .i64 i] ++ junks 10 21,
   gmF ++ [(0, .st true [.ints .u64 4 a]), (1, .st true [.ints .u64 4 n]), (2, .st true [.ints .u64 4 [0, 0, 0, 0]]), (4, .st true [.ints .u64 4 out])], 7⟩
noncomputable def bodyP : Code := unloop (Code.blk (body Tryd.f72) 0)
def jsP : Fg := ⟨[.keep, .keep, .keep, .keep, .keep, .keep, .junk, .junk, .junk, .junk] ++ List.replicate 21 .junk, 8, 7⟩
def outP (a n out : List Int) : St :=
  ⟨[.ints .u64 4 a, .ints .u64 4 n, ptr0 0, ptr0 1, ptr0 2, ptr0 4] ++ junks 6 25,
   gmF ++ [(0, .st true [.ints .u64 4 a]), (1, .st true [.ints .u64 4 n]), (2, .st true [.ints .u64 4 [0, 0, 0, 0]]), (4, .st true [.ints .u64 4 out])], 7⟩

noncomputable abbrev cxP : Cx := cxF [(30, mulC), (32, smallC)]

theorem roundP (a n out : List Int) (i : Int) : endOf ksP jsP (exec cxP (drawS cxP) no 100 bodyP (invP a n i out)) =
  .ite (decide (i < 256)) (.need (U64 out ∧ U64 out) (.need (0 ≤ IntKind.i64.wrap ((IntKind.i64.wrap (255 - i)).tdiv 64) ∧ IntKind.i64.wrap ((IntKind.i64.wrap (255 - i)).tdiv 64) < 4)
    (.need ((IntKind.i64.wrap ((IntKind.i64.wrap (255 - i)).tdiv 64)).toNat + 1 ≤ 4) (.need (0 ≤ (IntKind.i64.wrap (255 - i)).tmod 64)
      (.ite (bitsI .and .u64 (shrI .u64 (n.getD (IntKind.i64.wrap ((IntKind.i64.wrap (255 - i)).tdiv 64)).toNat 0) ((IntKind.i64.wrap (255 - i)).tmod 64)) 1 == 1)
        (.need (U64 (toL 4 (val out * val out % P25)) ∧ U64 a) (.ret (.normal, invP a n (IntKind.i64.wrap (i + 1)) (toL 4 (val (toL 4 (val out * val out % P25)) * val a % P25)))))
        (.ret (.normal, invP a n (IntKind.i64.wrap (i + 1)) (toL 4 (val out * val out % P25)))))))))
  (.ret (.exit 0, outP a n out)) := by kernel_rfl

noncomputable def blP (a n out : List Int) : Blocks := fun i => match Nat.beq i 0 with
  | true => some (loopF ksP (invP a n 0 [1, 0, 0, 0]) (outP a n out))
  | false => none
theorem run60 (a n out : List Int) : runX cxP (blP a n out) 100 Tryd.f72 (body Tryd.f72) (can l2 [.l a, .l n]) gmF =
  .need True (.need (invP a n 0 [1, 0, 0, 0] = invP a n 0 [1, 0, 0, 0]) (.ret (.ints .u64 4 out))) := by kernel_rfl
abbrev powC : List SV → T SV := ct l2 (fun | [.l a, .l b] => U64 a ∧ U64 b | _ => False) [i4] (fun | [.l a, .l b] => [.l (toL 4 (val a ^ (val b).toNat % P25))] | _ => [])

/-- A bit of a number in digits. -/
theorem digit_bit : ∀ (l : List Int) (q r : Nat), U64 l → r < 64 → val l / 2 ^ (64 * q + r) % 2 = (l.getD q 0) / 2 ^ r % 2
  | [], q, r, _, _ => by simp [val]
  | x :: l, 0, r, h, hr => by
    simp only [val, Nat.mul_zero, Nat.zero_add, List.getD_cons_zero]
    have e : (18446744073709551616 : Int) * val l = (2 ^ r : Int) * (2 * (2 ^ (63 - r) * val l)) := by
      have : (2 : Int) ^ r * 2 ^ (63 - r) = 2 ^ 63 := by rw [← Int.pow_add]; congr 1; omega
      rw [← Int.mul_assoc, ← Int.mul_assoc, Int.mul_assoc (2 ^ r) 2, Int.mul_comm 2, ← Int.mul_assoc, this]
      rfl
    rw [e, Int.add_mul_ediv_left _ _ (Int.ne_of_gt (Int.pow_pos (by decide))), Int.add_mul_emod_self_left]
  | x :: l, q + 1, r, h, hr => by
    obtain ⟨hx, hl⟩ := U64.cons.1 h
    rw [List.getD_cons_succ, ← digit_bit l q r hl hr]
    have e : (2 : Int) ^ (64 * (q + 1) + r) = 18446744073709551616 * 2 ^ (64 * q + r) := by
      rw [show 64 * (q + 1) + r = 64 + (64 * q + r) by omega, Int.pow_add]; rfl
    rw [e, ← Int.ediv_ediv_of_nonneg (by decide)]
    congr 2
    simp only [val]
    omega

theorem pow_step (_ N : Int) (i : Nat) (hN : 0 ≤ N) (hi : i < 256) (b : Int) (hb : N / 2 ^ (255 - i) % 2 = b) :
    (N / 2 ^ (256 - (i + 1))).toNat = 2 * (N / 2 ^ (256 - i)).toNat + b.toNat := by
  have e : (2 : Int) ^ (256 - i) = 2 ^ (255 - i) * 2 := by rw [show 256 - i = (255 - i) + 1 by omega, Int.pow_succ]
  rw [show 256 - (i + 1) = 255 - i by omega, e, ← Int.ediv_ediv_of_nonneg (Int.le_of_lt (Int.pow_pos (by decide)))]
  have : 0 ≤ N / 2 ^ (255 - i) := Int.ediv_nonneg hN (Int.le_of_lt (Int.pow_pos (by decide)))
  omega

theorem pow_mul_mod (A : Int) (e : Nat) : (A ^ e % P25) * (A ^ e % P25) % P25 = A ^ (2 * e) % P25 := by
  rw [← Int.mul_emod, ← Int.pow_add, show e + e = 2 * e by omega]
theorem pow_mul_mod1 (A : Int) (e : Nat) : (A ^ e % P25) * A % P25 = A ^ (e + 1) % P25 := by
  rw [Int.mul_emod, Int.emod_emod_of_dvd _ (Int.dvd_refl P25), ← Int.mul_emod, Int.pow_succ]
theorem wrap_i64 (x : Int) (h : -9223372036854775808 ≤ x ∧ x < 9223372036854775808) : IntKind.i64.wrap x = x := by
  simp [IntKind.wrap, IntKind.bits, IntKind.signed]
  omega

noncomputable def InvP (a n : List Int) (i : Nat) : St := invP a n i (toL 4 (val a ^ (val n / 2 ^ (256 - i)).toNat % P25))

theorem U64.getD {l : List Int} (h : U64 l) (j : Nat) : 0 ≤ l.getD j 0 ∧ l.getD j 0 < 18446744073709551616 := by
  rw [List.getD_eq_getElem?_getD]
  cases e : l[j]? with
  | none => simp
  | some x => exact h x (List.mem_of_getElem? e)

theorem fn60 : FnOk Tryd.prog GF 72 powC := by
  have hcx := cxF_ok (fns := [(30, mulC), (32, smallC)]) ⟨fn18, fn26, trivial⟩
  refine fnOk_lp hcx gF Tryd.func72 (c := body Tryd.f72) (by kernel_rfl) (enters_of Tryd.func72 (by kernel_rfl) (by kernel_rfl)) (fuel := 100) ?_
  intro xs hfit hp
  obtain ⟨a, n, rfl, ha, hn⟩ := fit_l2 hfit
  obtain ⟨ua, un⟩ := hp
  have rn := val4_range un hn
  have out := toL 4 (val a ^ (val n).toNat % P25)
  refine ⟨blP a n (toL 4 (val a ^ (val n).toNat % P25)), ?_, fit_i4 _, ?_⟩
  · intro Γ hG h0 hg hz
    refine blocksIn_of _ fun id f hf b hb => ?_
    have hid : id = 0 := by
      simp only [blP] at hf
      split at hf
      · rename_i h; exact Nat.eq_of_beq_eq_true h
      · cases hf
    subst hid
    have hbl : blksL (body Tryd.f72) 0 = [.loop bodyP] := by kernel_rfl
    rw [hbl] at hb
    have hb := List.mem_singleton.1 hb
    subst hb
    have hf : loopF ksP (invP a n 0 [1, 0, 0, 0]) (outP a n (toL 4 (val a ^ (val n).toNat % P25))) = f := by
      simpa [blP] using hf
    subst hf
    have e0 : invP a n 0 [1, 0, 0, 0] = InvP a n 0 := by
      unfold InvP
      rw [show val n / 2 ^ (256 - 0) = 0 from Int.ediv_eq_zero_of_lt rn.1 rn.2, show Int.toNat 0 = 0 from rfl, Int.pow_zero]
      rfl
    rw [e0]
    refine loop_rule (hG ▸ hcx) hg h0 (drawS_sound (hG ▸ hcx) hg h0) (bl := no) (blocksIn_none _) (InvP a n) (fun i => 256 - i) (fun i => i ≤ 256) _ 100 ksP jsP (by rw [hz]; exact Nat.zero_le _) (by rw [hz]; exact Nat.zero_le _) ?_ 0 (Nat.zero_le _)
    intro i hi
    unfold InvP
    rw [roundP]
    simp only [T.good, decide_eq_true_eq, decide_eq_false_iff_not]
    refine ⟨fun hlt => ?_, fun hlt => ?_⟩
    · have hi' : i < 256 := by omega
      rw [wrap_i64 (255 - (i : Int)) (by omega), wrap_i64 ((255 - (i : Int)).tdiv 64) (by rw [Int.tdiv_eq_ediv_of_nonneg (by omega)]; omega), wrap_i64 ((i : Int) + 1) (by omega),
        Int.tdiv_eq_ediv_of_nonneg (by omega), Int.tmod_eq_emod_of_nonneg (by omega)]
      have hq : ((255 - (i : Int)) / 64).toNat = (255 - i) / 64 := by omega
      have hr : (255 - (i : Int)) % 64 = (((255 - i) % 64 : Nat) : Int) := by omega
      have hs : 64 * ((255 - i) / 64) + (255 - i) % 64 = 255 - i := by omega
      have hd := digit_bit n ((255 - i) / 64) ((255 - i) % 64) un (by omega)
      rw [hs] at hd
      refine ⟨⟨toL_u64 _ _, toL_u64 _ _⟩, by omega, by omega, by omega, ?_⟩
      have hg' := U64.getD un ((255 - i) / 64)
      have hdiv : 0 ≤ n.getD ((255 - i) / 64) 0 / 2 ^ ((255 - i) % 64) ∧ n.getD ((255 - i) / 64) 0 / 2 ^ ((255 - i) % 64) < 18446744073709551616 :=
        ⟨Int.ediv_nonneg hg'.1 (Int.le_of_lt (Int.pow_pos (by decide))), Int.lt_of_le_of_lt (Int.ediv_le_self _ hg'.1) hg'.2⟩
      rw [hq, hr, shrI_u64 _ _ (by omega), and1 _ hdiv, ← hd]
      simp only [val_toLP, pow_mul_mod, pow_mul_mod1, beq_iff_eq, beq_eq_false_iff_ne, ne_eq]
      refine ⟨fun hb => ⟨⟨toL_u64 _ _, ua⟩, i + 1, by omega, ?_, by omega⟩, fun hb => ⟨i + 1, by omega, ?_, by omega⟩⟩
      · rw [pow_step (val a) (val n) i rn.1 hi' 1 hb]; rfl
      · rw [pow_step (val a) (val n) i rn.1 hi' 0 (by omega)]; rfl
    · have : i = 256 := by omega
      subst this
      refine ⟨trivial, ?_⟩
      simp
  · rw [run60]
    simp only [T.good]
    exact ⟨trivial, trivial, rfl⟩
end Go.Proofs.YtkhooaaidmoogaaDoor

namespace Go.Proofs.YtkhooaaidmoogaaDoor
open Go Go.Sx
set_option maxRecDepth 100000

abbrev invC : List SV → T SV := ct l1 (fun | [.l a] => U64 a | _ => False) [i4] (fun | [.l a] => [.l (toL 4 (val a ^ 57896044618658097711785492504343953926634992332820282019728792003956564819947 % P25))] | _ => [])
def powT (a n : List Int) (k : List Int → T SV) : T SV := .need (U64 a ∧ U64 n) (k (toL 4 (val a ^ (val n).toNat % P25)))
theorem run33 (a : List Int) : runX (cxF [(72, powC)]) no 100 Tryd.f54 (body Tryd.f54) (can l1 [.l a]) gmF = powT a less2L fun r => l11 r := by kernel_rfl
theorem fn33 : FnOk Tryd.prog GF 54 invC := by
  refine fnOk_ct (cxF_ok (fns := [(72, powC)]) ⟨fn60, trivial⟩) gF Tryd.func54 (c := body Tryd.f54) (by kernel_rfl) (enters_of Tryd.func54 (by kernel_rfl) (by kernel_rfl)) (bl := no) (fuel := 100) noBl ?_
  intro xs hfit hp
  obtain ⟨a, rfl, ha⟩ := fit_l1 hfit
  have ua : U64 a := hp
  refine ⟨fit_i4 _, ?_⟩
  rw [run33]
  simp only [powT, T.good]
  refine ⟨⟨ua, u64_4.2 (by decide)⟩, ?_⟩
  rw [show (val less2L).toNat = 57896044618658097711785492504343953926634992332820282019728792003956564819947 by decide]
  rfl
end Go.Proofs.YtkhooaaidmoogaaDoor

namespace Go.Proofs.YtkhooaaidmoogaaDoor
open Go Go.Sx
set_option maxRecDepth 100000

/-- Eight bytes, put together. -/
def w8 (b0 b1 b2 b3 b4 b5 b6 b7 : Int) : Int :=
  let g (a b : Int) (k : Int) : Int := bitsI .or .u64 a (shlI .u64 (IntKind.u64.wrap b) k)
  g (g (g (g (g (g (g (g 0 b0 0) b1 8) b2 16) b3 24) b4 32) b5 40) b6 48) b7 56

/-- Bytes as a number, the lowest first; and back. -/
def bv : List Int → Int
  | [] => 0
  | x :: l => x + 256 * bv l
def toB : Nat → Int → List Int
  | 0, _ => []
  | k + 1, n => n % 256 :: toB k (n / 256)
def U8 (l : List Int) : Prop := ∀ x ∈ l, 0 ≤ x ∧ x < 256

theorem toB_length (k : Nat) (n : Int) : (toB k n).length = k := by induction k generalizing n <;> simp [toB, *]

theorem or_add (a b : Int) (k : Nat) (ha : 0 ≤ a ∧ a < 2 ^ k) (hb : 0 ≤ b ∧ b < 256) (hk : k ≤ 56) : bitsI .or .u64 a (shlI .u64 (IntKind.u64.wrap b) (k : Int)) = a + 2 ^ k * b := by
  obtain ⟨A, rfl⟩ := Int.eq_ofNat_of_zero_le ha.1
  obtain ⟨B, rfl⟩ := Int.eq_ofNat_of_zero_le hb.1
  have hA : A < 2 ^ k := by have := ha.2; rw [show (2 : Int) ^ k = ((2 ^ k : Nat) : Int) by simp] at this; omega
  have hB : B < 256 := by omega
  have h2 : (2 : Nat) ^ k ≤ 2 ^ 56 := Nat.pow_le_pow_right (by decide) hk
  have hp : 2 ^ k * B < 18446744073709551616 := by
    have : 2 ^ k * B ≤ 2 ^ 56 * 255 := Nat.mul_le_mul h2 (by omega)
    omega
  have e : shlI .u64 (IntKind.u64.wrap (B : Int)) (k : Int) = ((2 ^ k * B : Nat) : Int) := by
    rw [wrap_u64, Int.emod_eq_of_lt (by omega) (by omega)]
    simp only [shlI, IntKind.bits, Int.toNat_natCast, Nat.min_eq_left (show k ≤ 64 by omega), wrap_u64]
    rw [show (B : Int) * 2 ^ k = ((2 ^ k * B : Nat) : Int) by simp [Int.mul_comm]]
    exact Int.emod_eq_of_lt (by omega) (by omega)
  rw [e]
  have e2 : bitsI .or .u64 (A : Int) ((2 ^ k * B : Nat) : Int) = ((A ||| 2 ^ k * B : Nat) : Int) := u64_or_nat A (2 ^ k * B) (by omega) hp
  rw [e2, Nat.or_comm, ← Nat.two_pow_add_eq_or_of_lt hA]
  simp
  omega

theorem w8_eq (b0 b1 b2 b3 b4 b5 b6 b7 : Int) (h : U8 [b0, b1, b2, b3, b4, b5, b6, b7]) : w8 b0 b1 b2 b3 b4 b5 b6 b7 = bv [b0, b1, b2, b3, b4, b5, b6, b7] := by
  simp only [U8, List.mem_cons, List.not_mem_nil, or_false, forall_eq_or_imp, forall_eq] at h
  obtain ⟨h0, h1, h2, h3, h4, h5, h6, h7⟩ := h
  simp only [w8]
  have e0 := or_add 0 b0 0 (by omega) h0 (by omega)
  have e1 := or_add (b0) b1 8 (by omega) h1 (by omega)
  have e2 := or_add (b0 + 256 * b1) b2 16 (by omega) h2 (by omega)
  have e3 := or_add (b0 + 256 * b1 + 65536 * b2) b3 24 (by omega) h3 (by omega)
  have e4 := or_add (b0 + 256 * b1 + 65536 * b2 + 16777216 * b3) b4 32 (by omega) h4 (by omega)
  have e5 := or_add (b0 + 256 * b1 + 65536 * b2 + 16777216 * b3 + 4294967296 * b4) b5 40 (by omega) h5 (by omega)
  have e6 := or_add (b0 + 256 * b1 + 65536 * b2 + 16777216 * b3 + 4294967296 * b4 + 1099511627776 * b5) b6 48 (by omega) h6 (by omega)
  have e7 := or_add (b0 + 256 * b1 + 65536 * b2 + 16777216 * b3 + 4294967296 * b4 + 1099511627776 * b5 + 281474976710656 * b6) b7 56 (by omega) h7 (by omega)
  simp only [Int.reducePow, Int.zero_add, Int.one_mul, Int.pow_zero, Int.cast_ofNat_Int] at e0 e1 e2 e3 e4 e5 e6 e7
  rw [e0, e1, e2, e3, e4, e5, e6, e7]
  simp only [bv]
  omega

theorem len32 {l : List Int} (h : l.length = 32) : ∃ b0 b1 b2 b3 b4 b5 b6 b7 b8 b9 b10 b11 b12 b13 b14 b15 b16 b17 b18 b19 b20 b21 b22 b23 b24 b25 b26 b27 b28 b29 b30 b31, l = [b0, b1, b2, b3, b4, b5, b6, b7, b8, b9, b10, b11, b12, b13, b14, b15, b16, b17, b18, b19, b20, b21, b22, b23, b24, b25, b26, b27, b28, b29, b30, b31] := by
  match l, h with
  | [b0, b1, b2, b3, b4, b5, b6, b7, b8, b9, b10, b11, b12, b13, b14, b15, b16, b17, b18, b19, b20, b21, b22, b23, b24, b25, b26, b27, b28, b29, b30, b31], _ => exact ⟨b0, b1, b2, b3, b4, b5, b6, b7, b8, b9, b10, b11, b12, b13, b14, b15, b16, b17, b18, b19, b20, b21, b22, b23, b24, b25, b26, b27, b28, b29, b30, b31, rfl⟩

theorem bv8_range (b0 b1 b2 b3 b4 b5 b6 b7 : Int) (h : U8 [b0, b1, b2, b3, b4, b5, b6, b7]) : 0 ≤ bv [b0, b1, b2, b3, b4, b5, b6, b7] ∧ bv [b0, b1, b2, b3, b4, b5, b6, b7] < 18446744073709551616 := by
  simp only [U8, List.mem_cons, List.not_mem_nil, or_false, forall_eq_or_imp, forall_eq] at h
  simp only [bv]
  omega

theorem U8.append {a b : List Int} : U8 (a ++ b) ↔ U8 a ∧ U8 b := by
  simp only [U8, List.mem_append]
  exact ⟨fun h => ⟨fun x hx => h x (.inl hx), fun x hx => h x (.inr hx)⟩, fun h x hx => hx.elim (h.1 x) (h.2 x)⟩
theorem bv_append8 (b0 b1 b2 b3 b4 b5 b6 b7 : Int) (l : List Int) : bv ([b0, b1, b2, b3, b4, b5, b6, b7] ++ l) = bv [b0, b1, b2, b3, b4, b5, b6, b7] + 18446744073709551616 * bv l := by
  simp only [List.cons_append, List.nil_append, bv]
  omega

abbrev ofC : List SV → T SV := ct [.ints .u8 32] (fun | [.l b] => U8 b | _ => False) [i4] (fun | [.l b] => [.l (toL 4 (bv b % P25))] | _ => [])
theorem toB_add : ∀ (j k : Nat) (n : Int), toB (j + k) n = toB j n ++ toB k (n / 256 ^ j)
  | 0, k, n => by simp [toB]
  | j + 1, k, n => by
    rw [show j + 1 + k = (j + k) + 1 by omega]
    simp only [toB, List.cons_append]
    rw [toB_add j k (n / 256), Int.ediv_ediv_of_nonneg (by decide), Int.pow_succ, Int.mul_comm 256]

theorem u8wrap (x : Int) : IntKind.u8.wrap x = x % 256 := by simp [IntKind.wrap, IntKind.bits, IntKind.signed]

theorem word_bytes (x : Int) : [IntKind.u8.wrap (shrI .u64 (x % 18446744073709551616) 0), IntKind.u8.wrap (shrI .u64 (x % 18446744073709551616) 8), IntKind.u8.wrap (shrI .u64 (x % 18446744073709551616) 16), IntKind.u8.wrap (shrI .u64 (x % 18446744073709551616) 24), IntKind.u8.wrap (shrI .u64 (x % 18446744073709551616) 32), IntKind.u8.wrap (shrI .u64 (x % 18446744073709551616) 40), IntKind.u8.wrap (shrI .u64 (x % 18446744073709551616) 48), IntKind.u8.wrap (shrI .u64 (x % 18446744073709551616) 56)] = toB 8 x := by
  have s (k : Nat) (hk : k ≤ 64) (y : Int) : shrI .u64 y (k : Int) = y / 2 ^ k := shrI_u64 y k hk
  have s0 := s 0 (by omega) (x % 18446744073709551616)
  have s1 := s 8 (by omega) (x % 18446744073709551616)
  have s2 := s 16 (by omega) (x % 18446744073709551616)
  have s3 := s 24 (by omega) (x % 18446744073709551616)
  have s4 := s 32 (by omega) (x % 18446744073709551616)
  have s5 := s 40 (by omega) (x % 18446744073709551616)
  have s6 := s 48 (by omega) (x % 18446744073709551616)
  have s7 := s 56 (by omega) (x % 18446744073709551616)
  simp only [Int.cast_ofNat_Int, Int.reducePow, Int.pow_zero] at s0 s1 s2 s3 s4 s5 s6 s7
  rw [s0, s1, s2, s3, s4, s5, s6, s7]
  simp only [u8wrap, toB, List.cons.injEq, and_true]
  refine ⟨?_, ?_, ?_, ?_, ?_, ?_, ?_, ?_⟩ <;> omega

abbrev bytesC : List SV → T SV := ct l1 (fun | [.l a] => U64 a | _ => False) [.ints .u8 32] (fun | [.l a] => [.l (toB 32 (val a % P25))] | _ => [])
end Go.Proofs.YtkhooaaidmoogaaDoor

namespace Go.Proofs.YtkhooaaidmoogaaDoor
open Go Go.Sx
set_option maxRecDepth 100000

def invT (a : List Int) (k : List Int → T SV) : T SV := .need (U64 a) (k (toL 4 (val a ^ 57896044618658097711785492504343953926634992332820282019728792003956564819947 % P25)))
def sameT (a b : List Int) (k : Bool → T SV) : T SV := .need (U64 a ∧ U64 b) (k (decide (val a % P25 = val b % P25)))
def oddT (a : List Int) (k : Bool → T SV) : T SV := .need (U64 a) (k (decide (val a % P25 % 2 = 1)))

def restT (u v r : List Int) : T SV :=
  mul2T r r fun rr => mul2T v rr fun w => sameT w u fun b =>
    .ite (!b) (.ret (.tup [.ints .u64 4 [0, 0, 0, 0], .ff])) (oddT r fun o => .ite o (neg1T r fun r => .ret (.tup [.ints .u64 4 r, .tt])) (.ret (.tup [.ints .u64 4 r, .tt])))
def rootT (u v : List Int) : T SV :=
  invT v fun i => mul2T u i fun q => powT q eighthL fun r =>
  mul2T r r fun rr => mul2T v rr fun w => sameT w u fun b =>
    .ite (!b) (.need True (powT [2, 0, 0, 0] quarterL fun s => mul2T r s fun r => restT u v r)) (restT u v r)
theorem run31 (u v : List Int) : runX (cxF [(30, mulC), (54, invC), (72, powC), (23, sameC), (73, oddC), (45, negC), (32, smallC)]) no 100 Tryd.f55 (body Tryd.f55) (can l2 [.l u, .l v]) gmF = rootT u v := by kernel_rfl
/-- The even root, by numbers. -/
def chkP (U V r : Int) : Prop := V * (r * r % P25) % P25 % P25 = U % P25
instance (U V r : Int) : Decidable (chkP U V r) := by unfold chkP; infer_instance
def endP (U V r : Int) : Int × Bool := if chkP U V r then (if r % P25 % 2 = 1 then ((-r) % P25, true) else (r, true)) else (0, false)
def qP (U V : Int) : Int := (U * (V ^ 57896044618658097711785492504343953926634992332820282019728792003956564819947 % P25) % P25) ^ (val eighthL).toNat % P25
def rootP (U V : Int) : Int × Bool := if chkP U V (qP U V) then endP U V (qP U V) else endP U V (qP U V * (val [2, 0, 0, 0] ^ (val quarterL).toNat % P25) % P25)

abbrev rootC : List SV → T SV := ct l2 (fun | [.l a, .l b] => U64 a ∧ U64 b | _ => False) [i4, .bool] (fun | [.l a, .l b] => [.l (toL 4 (rootP (val a) (val b)).1), .b (rootP (val a) (val b)).2] | _ => [])

theorem restT_good (u v : List Int) (r : Int) (uu : U64 u) (uv : U64 v) : (restT u v (toL 4 (r % P25))).good fun w => ∀ ρ, w.den ρ = (outV [i4, .bool] [.l (toL 4 (endP (val u) (val v) (r % P25)).1), .b (endP (val u) (val v) (r % P25)).2]).den ρ := by
  have ut : ∀ x, U64 (toL 4 x) := fun x => toL_u64 4 x
  unfold restT mul2T sameT oddT neg1T
  simp only [T.good]
  refine ⟨⟨ut _, ut _⟩, ⟨uv, ut _⟩, ⟨ut _, uu⟩, fun h => ?_, fun h => ⟨ut _, fun ho => ⟨ut _, ?_⟩, fun ho => ?_⟩⟩
  all_goals simp only [val_toLP] at h
  · have hc : ¬ chkP (val u) (val v) (r % P25) := by
      simp only [Bool.not_eq_true', decide_eq_false_iff_not] at h; exact h
    intro ρ
    simp only [endP, if_neg hc]
    rfl
  · have hc : chkP (val u) (val v) (r % P25) := by
      simp only [Bool.not_eq_false', decide_eq_true_eq] at h; exact h
    simp only [val_toLP, decide_eq_true_eq] at ho
    intro ρ
    simp only [endP, if_pos hc, if_pos ho, val_toLP]
    rfl
  · have hc : chkP (val u) (val v) (r % P25) := by
      simp only [Bool.not_eq_false', decide_eq_true_eq] at h; exact h
    simp only [val_toLP, decide_eq_false_iff_not] at ho
    intro ρ
    simp only [endP, if_pos hc, if_neg ho]
    rfl

theorem fn31 : FnOk Tryd.prog GF 55 rootC := by
  refine fnOk_den (cxF_ok (fns := [(30, mulC), (54, invC), (72, powC), (23, sameC), (73, oddC), (45, negC), (32, smallC)]) ⟨fn18, fn33, fn60, fn27, fn29, fn20, fn26, trivial⟩) gF Tryd.func55 (c := body Tryd.f55) (by kernel_rfl) (enters_of Tryd.func55 (by kernel_rfl) (by kernel_rfl)) (fuel := 100) ?_
  intro xs hfit hp
  obtain ⟨u, v, rfl, hu, hv⟩ := fit_l2 hfit
  obtain ⟨uu, uv⟩ := hp
  have ut : ∀ x, U64 (toL 4 x) := fun x => toL_u64 4 x
  refine ⟨no, noBl, by simp [fit, fit1, toL_length], ?_⟩
  rw [run31]
  unfold rootT invT mul2T powT sameT
  simp only [T.good]
  refine ⟨uv, ⟨uu, ut _⟩, ⟨ut _, u64_4.2 (by decide)⟩, ⟨ut _, ut _⟩, ⟨uv, ut _⟩, ⟨ut _, uu⟩, fun h => ⟨trivial, ⟨u64_4.2 (by decide), u64_4.2 (by decide)⟩, ⟨ut _, ut _⟩, ?_⟩, fun h => ?_⟩
  · simp only [val_toLP, Bool.not_eq_true', decide_eq_false_iff_not] at h
    have hc : ¬ chkP (val u) (val v) (qP (val u) (val v)) := h
    simp only [rootP, if_neg hc]
    simp only [val_toLP]
    exact restT_good u v (qP (val u) (val v) * (val [2, 0, 0, 0] ^ (val quarterL).toNat % P25)) uu uv
  · simp only [val_toLP, Bool.not_eq_false', decide_eq_true_eq] at h
    have hc : chkP (val u) (val v) (qP (val u) (val v)) := h
    simp only [rootP, if_pos hc]
    simp only [val_toLP]
    exact restT_good u v _ uu uv
end Go.Proofs.YtkhooaaidmoogaaDoor

namespace Go.Proofs.YtkhooaaidmoogaaDoor
open Go Go.Sx
set_option maxRecDepth 100000

/-- A power modulo P, by bits. -/
def pm (a : Int) : Nat → Nat → Int
  | 0, _ => 1
  | f + 1, e => match Nat.beq e 0 with
    | true => 1
    | false => match Nat.beq (e % 2) 1 with
      | true => pm a f (e / 2) * pm a f (e / 2) % P25 * a % P25
      | false => pm a f (e / 2) * pm a f (e / 2) % P25

theorem pm_eq (a : Int) : ∀ (f e : Nat), e < 2 ^ f → pm a f e % P25 = a ^ e % P25
  | 0, e, h => by
    have : e = 0 := by simp at h; exact h
    subst this; simp [pm]
  | f + 1, e, h => by
    have ih := pm_eq a f (e / 2) (by rw [Nat.pow_succ] at h; omega)
    have hsq : pm a f (e / 2) * pm a f (e / 2) % P25 = a ^ (2 * (e / 2)) % P25 := by
      rw [Int.mul_emod, ih, ← Int.mul_emod, ← Int.pow_add]; congr 2; omega
    unfold pm
    split
    · rename_i h0; have := Nat.eq_of_beq_eq_true h0; subst this; simp
    · split
      · rename_i h1
        have h1 := Nat.eq_of_beq_eq_true h1
        rw [Int.emod_emod_of_dvd _ (Int.dvd_refl P25), Int.mul_emod, Int.emod_emod_of_dvd _ (Int.dvd_refl P25), hsq, ← Int.mul_emod, ← Int.pow_succ]
        congr 2; omega
      · rename_i h1
        have h1 : ¬ e % 2 = 1 := fun hc => by rw [hc] at h1; simp at h1
        rw [Int.emod_emod_of_dvd _ (Int.dvd_refl P25), hsq]
        congr 2; omega

abbrev halfC : List SV → T SV := ct [] (fun _ => True) [i4] (fun _ => [.l [18446744073709551607, 18446744073709551615, 18446744073709551615, 4611686018427387903]])
end Go.Proofs.YtkhooaaidmoogaaDoor

/- The statements' first call: 'awake' answers true. -/
namespace Go.Proofs.YtkhooaaidmoogaaDoor
open Go Go.Sx
set_option maxRecDepth 100000

abbrev halfL : List Int := [18446744073709551607, 18446744073709551615, 18446744073709551615, 4611686018427387903]
theorem pwI (a : Int) : a ^ 57896044618658097711785492504343953926634992332820282019728792003956564819947 % P25 = pm a 255 57896044618658097711785492504343953926634992332820282019728792003956564819947 % P25 := (pm_eq a 255 _ (by decide +kernel)).symm
theorem pwE (a : Int) : a ^ (val eighthL).toNat % P25 = pm a 255 (val eighthL).toNat % P25 := (pm_eq a 255 _ (by decide +kernel)).symm
theorem pwQ (a : Int) : a ^ (val quarterL).toNat % P25 = pm a 255 (val quarterL).toNat % P25 := (pm_eq a 255 _ (by decide +kernel)).symm

def qM (U V : Int) : Int := pm (U * (pm V 255 57896044618658097711785492504343953926634992332820282019728792003956564819947 % P25) % P25) 255 (val eighthL).toNat % P25
theorem qP_eq (U V : Int) : qP U V = qM U V := by unfold qP qM; rw [pwE, pwI]
def rootM (U V : Int) : Int × Bool := if chkP U V (qM U V) then endP U V (qM U V) else endP U V (qM U V * (pm (val [2, 0, 0, 0]) 255 (val quarterL).toNat % P25) % P25)
theorem rootP_eq (U V : Int) : rootP U V = rootM U V := by unfold rootP rootM; rw [qP_eq, pwQ]

theorem tb31 : FnOk Tryd.prog GF 55 (spG l2 (tabF [i4, .bool] [([.l [4, 0, 0, 0], .l [1, 0, 0, 0]], [.l [2, 0, 0, 0], .b true]), ([.l [2, 0, 0, 0], .l [1, 0, 0, 0]], [.l [0, 0, 0, 0], .b false])])) :=
  fn31.tab2 _ _ _ _ ⟨u64_4.2 (by decide), u64_4.2 (by decide)⟩ (by simp only [rootP_eq]; rfl) ⟨u64_4.2 (by decide), u64_4.2 (by decide)⟩ (by simp only [rootP_eq]; rfl)
theorem tb33 : FnOk Tryd.prog GF 54 (spG l1 (tabF [i4] [([.l [2, 0, 0, 0]], [.l halfL])])) :=
  fn33.tab1 _ _ (u64_4.2 (by decide)) (by simp only [pwI]; rfl)
theorem tb18 : FnOk Tryd.prog GF 30 (spG l2 (tabF [i4] [([.l [2, 0, 0, 0], .l halfL], [.l [1, 0, 0, 0]])])) :=
  fn18.tab1 _ _ ⟨u64_4.2 (by decide), u64_4.2 (by decide)⟩ rfl
theorem tb20 : FnOk Tryd.prog GF 45 (spG l1 (tabF [i4] [([.l [1, 0, 0, 0]], [.l [18446744073709551596, 18446744073709551615, 18446744073709551615, 9223372036854775807]])])) :=
  fn20.tab1 _ _ (u64_4.2 (by decide)) rfl
theorem tb14 : FnOk Tryd.prog GF 31 (spG l2 (tabF [i4] [([.l [18446744073709551596, 18446744073709551615, 18446744073709551615, 9223372036854775807], .l [1, 0, 0, 0]], [.l [0, 0, 0, 0]])])) :=
  fn14.tab1 _ _ ⟨u64_4.2 (by decide), u64_4.2 (by decide)⟩ rfl
theorem tb16 : FnOk Tryd.prog GF 34 (spG l2 (tabF [i4] [([.l [5, 0, 0, 0], .l [3, 0, 0, 0]], [.l [2, 0, 0, 0]])])) :=
  (fn16 fn20).tab1 _ _ ⟨u64_4.2 (by decide), u64_4.2 (by decide)⟩ rfl
theorem tb26 : FnOk Tryd.prog GF 32 (spG [u6] (tabF [i4] [([.n 258], [.l [258, 0, 0, 0]])])) := fn26.tab1 _ _ trivial rfl
abbrev b258 : List Int := [2, 1, 0, 0, 0, 0, 0, 0, 0, 0, 0, 0, 0, 0, 0, 0, 0, 0, 0, 0, 0, 0, 0, 0, 0, 0, 0, 0, 0, 0, 0, 0]
theorem tb29 : FnOk Tryd.prog GF 73 (spG l1 (tabF [.bool] [([.l [3, 0, 0, 0]], [.b true])])) := fn29.tab1 _ _ (u64_4.2 (by decide)) rfl
theorem tb27 : FnOk Tryd.prog GF 23 (spG l2 (tabF [.bool] [([.l primeL, .l [0, 0, 0, 0]], [.b true])])) := fn27.tab1 _ _ ⟨u64_4.2 (by decide), u64_4.2 (by decide)⟩ rfl

end Go.Proofs.YtkhooaaidmoogaaDoor

/- FieldLaws, up to its card. -/
namespace Go.Proofs.YtkhooaaidmoogaaDoor
open Go Go.Sx
set_option maxRecDepth 100000

def okT (b : Bool) (k : T SV) : T SV := .need (b = true) k
def sub2T (a b : List Int) (k : List Int → T SV) : T SV := .need (U64 a ∧ U64 b) (k (toL 4 ((val a - val b) % P25)))
abbrev z4 : List Int := [0, 0, 0, 0]
abbrev o4 : List Int := [1, 0, 0, 0]

def laws5T (a b c : List Int) : T SV :=
  add2T a b fun ab => add2T b a fun ba => okT (ab == ba) <|
  add2T a b fun ab => add2T ab c fun x => add2T b c fun bc => add2T a bc fun y => okT (x == y) <|
  sub2T a b fun s => add2T s b fun s3 => add2T a z4 fun a0 =>
  mul2T a b fun ab => mul2T b a fun ba => okT (ab == ba) <|
  mul2T a b fun ab => mul2T ab c fun x => mul2T b c fun bc => mul2T a bc fun y => okT (x == y) <|
  mul2T a o4 fun a1 => add2T a z4 fun a0' => okT (s3 == a0) <| okT (a1 == a0') <|
  add2T b c fun bc => mul2T a bc fun x => mul2T a b fun ab => mul2T a c fun ac => add2T ab ac fun y => okT (x == y) <|
  sub2T a b fun x => neg1T b fun nb => add2T a nb fun y => .ret (.bool (x == y))

theorem ut4 (x : Int) : U64 (toL 4 x) := toL_u64 4 x
theorem uz4 : U64 z4 := u64_4.2 (by decide)
theorem uo4 : U64 o4 := u64_4.2 (by decide)
theorem val_z4 : val z4 = 0 := by decide
theorem val_o4 : val o4 = 1 := by decide

/-- Numbers of one residue are one. -/
theorem same4 {x y : Int} (h : x % P25 = y % P25) : (toL 4 (x % P25) == toL 4 (y % P25)) = true := by rw [h]; exact beq_self_eq_true _


theorem laws5_good (a b c : List Int) (u1 : U64 a) (u2 : U64 b) (u3 : U64 c) : (laws5T a b c).good fun u => ∀ ρ, u.den ρ = (outV [.bool] [.b true]).den ρ := by
  simp only [laws5T, add2T, sub2T, mul2T, neg1T, okT, T.good, val_toLP, val_z4, val_o4]
  generalize val a = A
  generalize val b = B
  generalize val c = C
  have em : ∀ x : Int, x % P25 % P25 = x % P25 := fun x => Int.emod_emod_of_dvd x (Int.dvd_refl P25)
  refine ⟨⟨u1, u2⟩, ⟨u2, u1⟩, same4 ?_, ⟨u1, u2⟩, ⟨ut4 _, u3⟩, ⟨u2, u3⟩, ⟨u1, ut4 _⟩, same4 ?_, ⟨u1, u2⟩, ⟨ut4 _, u2⟩, ⟨u1, uz4⟩, ⟨u1, u2⟩, ⟨u2, u1⟩, same4 ?_, ⟨u1, u2⟩, ⟨ut4 _, u3⟩, ⟨u2, u3⟩, ⟨u1, ut4 _⟩, same4 ?_, ⟨u1, uo4⟩, ⟨u1, uz4⟩, same4 ?_, same4 ?_,
    ⟨u2, u3⟩, ⟨u1, ut4 _⟩, ⟨u1, u2⟩, ⟨u1, u3⟩, ⟨ut4 _, ut4 _⟩, same4 ?_, ⟨u1, u2⟩, u2, ⟨u1, ut4 _⟩, ?_⟩
  · rw [Int.add_comm]
  · rw [Int.add_emod, em, ← Int.add_emod, Int.add_emod A, em, ← Int.add_emod, Int.add_assoc]
  · rw [Int.mul_comm]
  · rw [Int.mul_emod, em, ← Int.mul_emod, Int.mul_emod A, em, ← Int.mul_emod, Int.mul_assoc]
  · rw [Int.add_emod, em, ← Int.add_emod]; congr 1; omega
  · rw [Int.mul_one, Int.add_zero]
  · rw [Int.mul_emod, em, ← Int.mul_emod, Int.mul_add, Int.add_emod, Int.add_emod (A * B % P25), em, em]
  · intro ρ
    have : (toL 4 ((A - B) % P25) == toL 4 ((A + -B % P25) % P25)) = true := same4 (by rw [Int.add_emod, em, ← Int.add_emod, Int.sub_eq_add_neg])
    rw [this]
    simp [SV.den, outV, can1]
end Go.Proofs.YtkhooaaidmoogaaDoor

/- The field's numbers: what Inv and Root are, by Fermat's theorem. -/
namespace Go.Proofs.YtkhooaaidmoogaaDoor
open Go Go.Sx
set_option maxRecDepth 100000

def Pn : Nat := 57896044618658097711785492504343953926634992332820282019728792003956564819949
theorem Pn_prime : Nt.Prime Pn := Nt.pr57896044618658097711785492504343953926634992332820282019728792003956564819949
instance : NeZero Pn := ⟨by decide +kernel⟩
theorem Pn_cast : (Pn : Int) = P25 := by decide +kernel
/-- A number's class. -/
def fp (x : Int) : Fin Pn := Nt.toF Pn x
theorem fp_eq {x y : Int} : fp x = fp y ↔ x % P25 = y % P25 := by
  unfold fp; rw [Nt.toF_eq, Pn_cast]
theorem fp_mod (x : Int) : fp (x % P25) = fp x := by
  unfold fp; rw [← Pn_cast]; exact Nt.toF_mod Pn x
theorem fp_add (x y : Int) : fp (x + y) = fp x + fp y := Nt.toF_add Pn x y
theorem fp_mul (x y : Int) : fp (x * y) = fp x * fp y := Nt.toF_mul Pn x y
theorem fp_neg (x : Int) : fp (-x) = -fp x := Nt.toF_neg Pn x
theorem fp_sub (x y : Int) : fp (x - y) = fp x - fp y := Nt.toF_sub Pn x y
theorem fp_pow (x : Int) (k : Nat) : fp (x ^ k) = fp x ^ k := Nt.toF_pow Pn x k
theorem fp_zero : fp 0 = 0 := Nt.toF_zero Pn
theorem fp_one : fp 1 = 1 := Nt.toF_one Pn
theorem fp_val (x : Int) : ((fp x).val : Int) = x % P25 := by
  unfold fp; rw [Nt.toF_val, Pn_cast]
theorem fp_zero_iff {x : Int} : fp x = 0 ↔ x % P25 = 0 := by
  rw [← fp_zero, fp_eq]; simp

theorem Pn_two : Pn - 2 = 57896044618658097711785492504343953926634992332820282019728792003956564819947 := by decide +kernel
theorem fp_inv (x : Int) : fp (x ^ 57896044618658097711785492504343953926634992332820282019728792003956564819947 % P25) = Nt.inv (fp x) := by
  rw [fp_mod, fp_pow]; unfold Nt.inv; rw [Pn_two]

def rootm : Fin Pn := fp (val [2, 0, 0, 0] ^ (val quarterL).toNat % P25)
theorem rootm_sq : rootm * rootm = -1 := by
  unfold rootm
  rw [pwQ, ← fp_mul, ← fp_one, ← fp_neg, fp_eq]
  decide +kernel

theorem Pn8 : Pn = 8 * ((val eighthL).toNat - 1) + 5 := by decide +kernel
theorem eighth_pos : (val eighthL).toNat = ((val eighthL).toNat - 1) + 1 := by decide +kernel
theorem Pn_odd : P25 % 2 = 1 := by decide +kernel

theorem fp_qP (U V : Int) : fp (qP U V) = (fp U * Nt.inv (fp V)) ^ ((val eighthL).toNat - 1 + 1) := by
  unfold qP
  rw [fp_mod, fp_pow, fp_mod, fp_mul, fp_inv, ← eighth_pos]

theorem chkP_iff (U V r : Int) : chkP U V r ↔ fp V * (fp r * fp r) = fp U := by
  unfold chkP
  rw [← fp_mul, ← fp_mod (r * r), ← fp_mul, fp_eq, Int.emod_emod_of_dvd _ (Int.dvd_refl P25)]

theorem neg_emod {r : Int} (h0 : 0 < r) (h1 : r < P25) : (-r) % P25 = P25 - r := by
  rw [show -r = P25 - r + P25 * (-1) by rw [Int.mul_neg, Int.mul_one]; omega, Int.add_mul_emod_self_left]
  exact Int.emod_eq_of_lt (by omega) (by omega)
theorem neg_mod_even {r : Int} (h0 : 0 ≤ r) (h1 : r < P25) (h : r % P25 % 2 = 1) : 0 ≤ (-r) % P25 ∧ (-r) % P25 < P25 ∧ (-r) % P25 % 2 = 0 := by
  rw [Int.emod_eq_of_lt h0 h1] at h
  have hr : 0 < r := by omega
  rw [neg_emod hr h1]
  have := Pn_odd
  generalize P25 = p at *
  omega

theorem endP_spec (U V r : Int) (h0 : 0 ≤ r) (h1 : r < P25) :
    (0 ≤ (endP U V r).1 ∧ (endP U V r).1 < P25 ∧ (endP U V r).1 % 2 = 0) ∧
    ((chkP U V r ∧ (endP U V r).2 = true ∧ fp V * (fp (endP U V r).1 * fp (endP U V r).1) = fp U ∧ (fp (endP U V r).1 = fp r ∨ fp (endP U V r).1 = -fp r)) ∨ (¬ chkP U V r ∧ (endP U V r).2 = false ∧ (endP U V r).1 = 0)) := by
  unfold endP
  by_cases hc : chkP U V r
  · rw [if_pos hc]
    have hq := (chkP_iff U V r).1 hc
    by_cases ho : r % P25 % 2 = 1
    · rw [if_pos ho]
      refine ⟨neg_mod_even h0 h1 ho, .inl ⟨hc, rfl, ?_, .inr ?_⟩⟩
      · rw [fp_mod, fp_neg, ← hq]; grind
      · rw [fp_mod, fp_neg]
    · rw [if_neg ho]
      refine ⟨⟨h0, h1, ?_⟩, .inl ⟨hc, rfl, hq, .inl rfl⟩⟩
      rw [Int.emod_eq_of_lt h0 h1] at ho
      clear hq hc
      omega
  · rw [if_neg hc]
    exact ⟨⟨by decide, by decide, by decide⟩, .inr ⟨hc, rfl, rfl⟩⟩

/-- **The root: even; its square, times v, is u; none, if none is.** -/
theorem rootP_spec (U V : Int) : (0 ≤ (rootP U V).1 ∧ (rootP U V).1 < P25 ∧ (rootP U V).1 % 2 = 0) ∧
    (((rootP U V).2 = true ∧ fp V * (fp (rootP U V).1 * fp (rootP U V).1) = fp U) ∨ ((rootP U V).2 = false ∧ (rootP U V).1 = 0 ∧ ∀ t, fp V * (t * t) ≠ fp U)) ∧
    (fp V = 0 → (rootP U V).1 = 0) := by
  have halt := Nt.root_alt Pn_prime Pn8 rootm rootm_sq (fp U) (fp V) (fp (qP U V)) (fp_qP U V)
  have q0 : 0 ≤ qP U V ∧ qP U V < P25 := by unfold qP; exact modP _
  have s0 : 0 ≤ qP U V * (val [2, 0, 0, 0] ^ (val quarterL).toNat % P25) % P25 ∧ qP U V * (val [2, 0, 0, 0] ^ (val quarterL).toNat % P25) % P25 < P25 := modP _
  have hs : fp (qP U V * (val [2, 0, 0, 0] ^ (val quarterL).toNat % P25) % P25) = fp (qP U V) * rootm := by rw [fp_mod, fp_mul]; rfl
  have e1 := endP_spec U V _ q0.1 q0.2
  have e2 := endP_spec U V _ s0.1 s0.2
  have hzero : ∀ r : Int, 0 ≤ r → r < P25 → fp r = 0 → r = 0 := fun r h0 h1 h => by
    have := fp_zero_iff.1 h
    rw [Int.emod_eq_of_lt h0 h1] at this; exact this
  have hv0 : fp V = 0 → fp (qP U V) = 0 := fun h => by
    rw [fp_qP, h, Nt.inv_zero (by decide +kernel), Nt.powS]; grind
  unfold rootP
  by_cases hc : chkP U V (qP U V)
  · rw [if_pos hc]
    refine ⟨e1.1, ?_, fun h => ?_⟩
    · rcases e1.2 with ⟨-, h1, h2, -⟩ | ⟨h1, -⟩
      · exact .inl ⟨h1, h2⟩
      · exact absurd hc h1
    · rcases e1.2 with ⟨-, -, -, h2⟩ | ⟨h1, -⟩
      · refine hzero _ e1.1.1 e1.1.2.1 ?_
        rw [hv0 h] at h2
        rcases h2 with h2 | h2 <;> rw [h2]
        grind
      · exact absurd hc h1
  · rw [if_neg hc]
    refine ⟨e2.1, ?_, fun h => ?_⟩
    · rcases e2.2 with ⟨-, h1, h2, -⟩ | ⟨h1, h2, h3⟩
      · exact .inl ⟨h1, h2⟩
      · refine .inr ⟨h2, h3, ?_⟩
        rcases halt with h | h | h
        · exact absurd ((chkP_iff U V _).2 h) hc
        · refine absurd ((chkP_iff U V _).2 ?_) h1
          rw [hs]; exact h
        · exact h
    · rcases e2.2 with ⟨-, -, -, h2⟩ | ⟨-, -, h3⟩
      · refine hzero _ e2.1.1 e2.1.2.1 ?_
        rw [hs, hv0 h] at h2
        rcases h2 with h2 | h2 <;> rw [h2] <;> grind
      · exact h3

/-- Two even numbers of one square are one. -/
theorem even_unique {x y : Int} (hx0 : 0 ≤ x) (hx1 : x < P25) (hx2 : x % 2 = 0) (hy0 : 0 ≤ y) (hy1 : y < P25) (hy2 : y % 2 = 0) (h : fp x * fp x = fp y * fp y) : x = y := by
  rcases Nt.sq_eq Pn_prime _ _ h with h | h
  · have := fp_eq.1 h
    rwa [Int.emod_eq_of_lt hx0 hx1, Int.emod_eq_of_lt hy0 hy1] at this
  · rw [← fp_neg] at h
    have := fp_eq.1 h
    rw [Int.emod_eq_of_lt hx0 hx1] at this
    rcases Int.lt_or_eq_of_le hy0 with hy | hy
    · rw [neg_emod hy hy1] at this
      have hodd := Pn_odd
      generalize P25 = p at *
      omega
    · subst hy
      simpa using this
end Go.Proofs.YtkhooaaidmoogaaDoor

/- FieldInverses, FieldSquares, FieldBack: contracts. -/
namespace Go.Proofs.YtkhooaaidmoogaaDoor
open Go Go.Sx
set_option maxRecDepth 100000

def isT (b d : Bool) (k : T SV) : T SV := .need (b = d) k
def root2T (u v : List Int) (k : List Int → Bool → T SV) : T SV := .need (U64 u ∧ U64 v) (k (toL 4 (rootP (val u) (val v)).1) (rootP (val u) (val v)).2)
def bytes1T (a : List Int) (k : List Int → T SV) : T SV := .need (U64 a) (k (toB 32 (val a % P25)))
def of1T (b : List Int) (k : List Int → T SV) : T SV := .need (U8 b) (k (toL 4 (bv b % P25)))

/-! ### Comparisons, in classes -/
theorem toL4_beq (x y : Int) : (toL 4 (x % P25) == toL 4 (y % P25)) = decide (fp x = fp y) := by
  rw [toLP_inj]
  exact decide_eq_decide.2 fp_eq.symm
theorem sameP (x y : Int) : decide (x % P25 = y % P25) = decide (fp x = fp y) := decide_eq_decide.2 fp_eq.symm
theorem beq_z4 (x : Int) : (toL 4 (x % P25) == z4) = decide (fp x = 0) := by
  rw [show z4 = toL 4 (0 % P25) by decide +kernel, toL4_beq, fp_zero]
theorem beq_o4 (x : Int) : (toL 4 (x % P25) == o4) = decide (fp x = 1) := by
  rw [show o4 = toL 4 (1 % P25) by decide +kernel, toL4_beq, fp_one]
theorem fp_inv' (x : Int) : fp (x ^ 57896044618658097711785492504343953926634992332820282019728792003956564819947) = Nt.inv (fp x) := by
  rw [← fp_inv, fp_mod]
theorem root_mod (U V : Int) : (rootP U V).1 % P25 = (rootP U V).1 := Int.emod_eq_of_lt (rootP_spec U V).1.1 (rootP_spec U V).1.2.1
theorem val_root (U V : Int) : val (toL 4 (rootP U V).1) = (rootP U V).1 := by rw [← root_mod, val_toLP]
theorem root_beq (U V x : Int) : (toL 4 (rootP U V).1 == toL 4 (x % P25)) = decide (fp (rootP U V).1 = fp x) := by rw [← root_mod, toL4_beq, fp_mod]
theorem den_true {b : Bool} (h : b = true) : ∀ ρ, (SV.bool b).den ρ = (outV [.bool] [.b true]).den ρ := fun ρ => by rw [h]; rfl
theorem den_tt : ∀ ρ, SV.tt.den ρ = (outV [.bool] [.b true]).den ρ := fun _ => rfl

theorem inv_inv (x : Fin Pn) : Nt.inv (Nt.inv x) = x := by
  by_cases h : x = 0
  · rw [h, Nt.inv_zero (by decide +kernel), Nt.inv_zero (by decide +kernel)]
  · have h1 := Nt.mul_inv Pn_prime x h
    have h2 : Nt.inv x ≠ 0 := fun e => by
      rw [e] at h1
      exact Nt.one_ne_zero Pn_prime (by rw [← h1]; grind)
    have h3 := Nt.mul_inv Pn_prime (Nt.inv x) h2
    grind
theorem inv_mul (x y : Fin Pn) : Nt.inv (x * y) = Nt.inv x * Nt.inv y := by
  unfold Nt.inv; exact Nt.mul_pow' x y _

/-! ### FieldInverses -/
def inv7T (z : Bool) (a b : List Int) : T SV :=
  invT a fun x => invT b fun y => sameT a z4 fun za =>
  let K (e : Bool → Bool) : T SV := invT x fun xx => sameT xx a fun s => okT s <| mul2T a b fun ab => invT ab fun i => mul2T x y fun xy => okT (i == xy) <| mul2T a b fun ab => .ret (.bool (e (ab == z4)))
  match z with
  | true => isT za true (K fun m => m == true)
  | false => isT za false (sameT b z4 fun zb => K fun m => m == zb)

theorem inv7_good (a b : List Int) (u1 : U64 a) (u2 : U64 b) : Gd (inv7T (decide (fp (val a) = 0)) a b) fun u => ∀ ρ, u.den ρ = (outV [.bool] [.b true]).den ρ := by
  refine ⟨?_⟩
  by_cases hz : fp (val a) = 0
  · rw [decide_eq_true hz]
    simp only [inv7T, invT, sameT, mul2T, okT, isT, T.good, val_toLP, val_z4, sameP, toL4_beq, beq_z4, fp_mod, fp_mul, fp_inv', fp_zero]
    refine ⟨u1, u2, ⟨u1, uz4⟩, decide_eq_true hz, ut4 _, ⟨ut4 _, u1⟩, decide_eq_true (inv_inv _), ⟨u1, u2⟩, ut4 _, ⟨ut4 _, ut4 _⟩, decide_eq_true (inv_mul _ _), ⟨u1, u2⟩, den_true ?_⟩
    rw [hz, decide_eq_true (show (0 : Fin Pn) * fp (val b) = 0 by grind)]
    rfl
  · rw [decide_eq_false hz]
    simp only [inv7T, invT, sameT, mul2T, okT, isT, T.good, val_toLP, val_z4, sameP, toL4_beq, beq_z4, fp_mod, fp_mul, fp_inv', fp_zero]
    refine ⟨u1, u2, ⟨u1, uz4⟩, decide_eq_false hz, ⟨u2, uz4⟩, ut4 _, ⟨ut4 _, u1⟩, decide_eq_true (inv_inv _), ⟨u1, u2⟩, ut4 _, ⟨ut4 _, ut4 _⟩, decide_eq_true (inv_mul _ _), ⟨u1, u2⟩, den_true ?_⟩
    rw [beq_iff_eq]
    refine decide_eq_decide.2 ⟨fun h => ?_, fun h => ?_⟩
    · exact (Nt.mul_zero_or Pn_prime _ _ h).resolve_left hz
    · rw [h]; grind

abbrev preU2 : List AV → Prop := fun | [.l a, .l b] => U64 a ∧ U64 b | _ => False
/-! ### FieldSquares -/
theorem root_sq (U : Int) : (rootP U 1).2 = true ↔ Nt.Sq (fp U) := by
  obtain ⟨-, h, -⟩ := rootP_spec U 1
  rw [fp_one] at h
  constructor
  · intro h1
    rcases h with ⟨-, h⟩ | ⟨h, -⟩
    · exact ⟨fp (rootP U 1).1, by rw [← h]; grind⟩
    · rw [h1] at h; cases h
  · rintro ⟨t, ht⟩
    rcases h with ⟨h, -⟩ | ⟨-, -, h⟩
    · exact h
    · exact absurd (by rw [← ht]; grind) (h t)
theorem root_sq' (U : Int) (h : (rootP U 1).2 = true) : fp (rootP U 1).1 * fp (rootP U 1).1 = fp U := by
  obtain ⟨-, h1, -⟩ := rootP_spec U 1
  rcases h1 with ⟨-, h1⟩ | ⟨h1, -⟩
  · rw [← h1, fp_one]; grind
  · rw [h] at h1; cases h1

def sq8T (c : Nat) (d : Bool) (a b : List Int) : T SV :=
  root2T a o4 fun _ p => root2T b o4 fun _ q => mul2T a b fun ab => root2T ab o4 fun x both => sameT a z4 fun za =>
  let tail : T SV := match d with
    | true => isT (!both) true (.ret .tt)
    | false => isT (!both) false (mul2T x x fun xx => mul2T a b fun ab => sameT xx ab fun s => .ret (.bool s))
  match c with
  | 0 => isT za true (isT (both == true) true tail)
  | 1 => isT za false (sameT b z4 fun zb => isT zb true (isT (both == true) true tail))
  | _ => isT za false (sameT b z4 fun zb => isT zb false (isT (both == (p == q)) true tail))

theorem sq_both (A B : Int) (h1 : fp A ≠ 0) (h2 : fp B ≠ 0) : (rootP (A * B % P25) 1).2 = ((rootP A 1).2 == (rootP B 1).2) := by
  have e := root_sq (A * B % P25)
  rw [fp_mod, fp_mul] at e
  have ea := root_sq A
  have eb := root_sq B
  have comm : fp A * fp B = fp B * fp A := by grind
  cases ha : (rootP A 1).2 <;> cases hb : (rootP B 1).2 <;> rw [ha] at ea <;> rw [hb] at eb
  · exact e.2 (Nt.not_sq_mul Pn_prime Pn8 rootm rootm_sq _ _ (fun h => by cases ea.2 h) (fun h => by cases eb.2 h))
  · cases hc : (rootP (A * B % P25) 1).2 with
    | false => rfl
    | true =>
      have := e.1 hc
      rw [comm] at this
      exact absurd (ea.2 (Nt.Sq.div Pn_prime _ _ h2 (eb.1 rfl) this)) (by simp)
  · cases hc : (rootP (A * B % P25) 1).2 with
    | false => rfl
    | true => exact absurd (eb.2 (Nt.Sq.div Pn_prime _ _ h1 (ea.1 rfl) (e.1 hc))) (by simp)
  · exact e.2 (Nt.Sq.mul _ _ (ea.1 rfl) (eb.1 rfl))

theorem sq8_tail (a b : List Int) (u1 : U64 a) (u2 : U64 b) (hb : (rootP (val a * val b % P25) 1).2 = true) :
    (isT (!(rootP (val a * val b % P25) 1).2) false (mul2T (toL 4 (rootP (val a * val b % P25) 1).1) (toL 4 (rootP (val a * val b % P25) 1).1) fun xx => mul2T a b fun ab => sameT xx ab fun s => .ret (.bool s))).good fun u => ∀ ρ, u.den ρ = (outV [.bool] [.b true]).den ρ := by
  simp only [isT, mul2T, sameT, T.good, val_toLP, val_root, sameP, fp_mod, fp_mul]
  refine ⟨by rw [hb]; rfl, ⟨ut4 _, ut4 _⟩, ⟨u1, u2⟩, ⟨ut4 _, ut4 _⟩, den_true (decide_eq_true ?_)⟩
  rw [root_sq' _ hb, fp_mod, fp_mul]

theorem sq8_good (a b : List Int) (u1 : U64 a) (u2 : U64 b) (c : Nat) (d : Bool)
    (h : (c = 0 ∧ d = false ∧ fp (val a) = 0) ∨ (c = 1 ∧ d = false ∧ fp (val a) ≠ 0 ∧ fp (val b) = 0) ∨ (c = 2 ∧ fp (val a) ≠ 0 ∧ fp (val b) ≠ 0 ∧ d = !(rootP (val a * val b % P25) 1).2)) :
    Gd (sq8T c d a b) fun u => ∀ ρ, u.den ρ = (outV [.bool] [.b true]).den ρ := by
  refine ⟨?_⟩
  have sq0 : fp (val a * val b) = 0 → (rootP (val a * val b % P25) 1).2 = true := fun h => (root_sq _).2 (by rw [fp_mod, h]; exact ⟨0, by grind⟩)
  rcases h with ⟨rfl, rfl, hz⟩ | ⟨rfl, rfl, hz, hz2⟩ | ⟨rfl, hz, hz2, rfl⟩
  · have hb := sq0 (by rw [fp_mul, hz]; grind)
    have ht := sq8_tail a b u1 u2 hb
    simp only [sq8T, root2T, mul2T, T.good, val_o4, val_toLP]
    refine ⟨⟨u1, uo4⟩, ⟨u2, uo4⟩, ⟨u1, u2⟩, ⟨ut4 _, uo4⟩, ?_⟩
    simp only [sameT, isT, T.good, val_z4, sameP, fp_zero] at *
    exact ⟨⟨u1, uz4⟩, decide_eq_true hz, by rw [hb]; rfl, ht⟩
  · have hb := sq0 (by rw [fp_mul, hz2]; grind)
    have ht := sq8_tail a b u1 u2 hb
    simp only [sq8T, root2T, mul2T, T.good, val_o4, val_toLP]
    refine ⟨⟨u1, uo4⟩, ⟨u2, uo4⟩, ⟨u1, u2⟩, ⟨ut4 _, uo4⟩, ?_⟩
    simp only [sameT, isT, T.good, val_z4, sameP, fp_zero] at *
    exact ⟨⟨u1, uz4⟩, decide_eq_false hz, ⟨u2, uz4⟩, decide_eq_true hz2, by rw [hb]; rfl, ht⟩
  · have he := sq_both _ _ hz hz2
    cases hb : (rootP (val a * val b % P25) 1).2 with
    | true =>
      have ht := sq8_tail a b u1 u2 hb
      simp only [sq8T, root2T, mul2T, T.good, val_o4, val_toLP, Bool.not_true]
      refine ⟨⟨u1, uo4⟩, ⟨u2, uo4⟩, ⟨u1, u2⟩, ⟨ut4 _, uo4⟩, ?_⟩
      simp only [sameT, isT, T.good, val_z4, sameP, fp_zero] at *
      exact ⟨⟨u1, uz4⟩, decide_eq_false hz, ⟨u2, uz4⟩, decide_eq_false hz2, by rw [← he]; exact beq_self_eq_true _, ht⟩
    | false =>
      simp only [sq8T, root2T, mul2T, T.good, val_o4, val_toLP, Bool.not_false]
      refine ⟨⟨u1, uo4⟩, ⟨u2, uo4⟩, ⟨u1, u2⟩, ⟨ut4 _, uo4⟩, ?_⟩
      simp only [sameT, isT, T.good, val_z4, sameP, fp_zero] at *
      exact ⟨⟨u1, uz4⟩, decide_eq_false hz, ⟨u2, uz4⟩, decide_eq_false hz2, by rw [← he]; exact beq_self_eq_true _, by rw [hb]; rfl, den_tt⟩

end Go.Proofs.YtkhooaaidmoogaaDoor

/- The document's answer for the field: its small functions. -/
namespace Go.Proofs.YtkhooaaidmoogaaDoor
open Go Go.Sx
set_option maxRecDepth 100000

theorem run59 : runX (cxF []) no 100 Tryd.f67 (body Tryd.f67) [] gmT = .ret (.ints .u64 4 primeL) := by kernel_rfl
abbrev primeC : List SV → T SV := ct [] (fun _ => True) [i4] (fun _ => [.l primeL])
theorem fn59 : FnOk Tryd.prog GT 67 primeC := by
  refine fnOk_ct (cxT_ok (fns := []) trivial) gT Tryd.func67 (c := body Tryd.f67) (by kernel_rfl) (enters_of Tryd.func67 (by kernel_rfl) (by kernel_rfl)) (bl := no) (fuel := 100) noBlT ?_
  intro xs hfit hp
  obtain rfl := fit_0 hfit
  refine ⟨by simp [fit, fit1, primeL], ?_⟩
  rw [show can [] [] = [] from rfl, run59]
  rfl

theorem run73 (a0 a1 a2 a3 b0 b1 b2 b3 : Int) : runX (cxF []) no 100 Tryd.f76 (body Tryd.f76) (can l2 [.l [a0, a1, a2, a3], .l [b0, b1, b2, b3]]) gmT =
  .ite (a3 != b3) (.ret (.bool (decide (a3 < b3)))) (.ite (a2 != b2) (.ret (.bool (decide (a2 < b2)))) (.ite (a1 != b1) (.ret (.bool (decide (a1 < b1)))) (.ite (a0 != b0) (.ret (.bool (decide (a0 < b0)))) (.ret .ff)))) := by kernel_rfl
abbrev lessC : List SV → T SV := ct l2 preU2 [.bool] (fun | [.l a, .l b] => [.b (decide (val a < val b))] | _ => [])
theorem fn73 : FnOk Tryd.prog GT 76 lessC := by
  refine fnOk_gd (cxT_ok (fns := []) trivial) gT Tryd.func76 (c := body Tryd.f76) (by kernel_rfl) (enters_of Tryd.func76 (by kernel_rfl) (by kernel_rfl)) (fuel := 100) ?_
  intro xs hfit hp
  obtain ⟨a, b, rfl, ha, hb⟩ := fit_l2 hfit
  obtain ⟨a0, a1, a2, a3, rfl⟩ := len4 ha
  obtain ⟨b0, b1, b2, b3, rfl⟩ := len4 hb
  obtain ⟨u1, u2⟩ := hp
  have hq := u64_4.1 u1
  have hr := u64_4.1 u2
  refine ⟨no, noBlT, by simp [fit, fit1], Gd.of_eq (run73 a0 a1 a2 a3 b0 b1 b2 b3) ⟨?_⟩⟩
  have den (p q : Prop) [Decidable p] [Decidable q] (h : p ↔ q) : ∀ ρ, (SV.bool (decide p)).den ρ = (outV [.bool] [.b (decide q)]).den ρ := fun ρ => by rw [decide_eq_decide.2 h]; rfl
  simp only [T.good, bne_iff_ne, ne_eq, bne_eq_false_iff_eq]
  refine ⟨fun h => den _ _ (by simp only [val]; omega), fun e => ⟨fun h => den _ _ (by simp only [val]; omega), fun e2 => ⟨fun h => den _ _ (by simp only [val]; omega), fun e3 => ⟨fun h => den _ _ (by simp only [val]; omega), fun e4 => ?_⟩⟩⟩⟩
  intro ρ
  subst e; subst e2; subst e3; subst e4
  simp [SV.den, outV, can1]

def c01 : Bool → Int
  | true => 1
  | false => 0
def bstepR (x y : Int) (c : Bool) (k : Int → Bool → T SV) : T SV :=
  .ite (decide (x < y)) (k (IntKind.u64.wrap (IntKind.u64.wrap (x - y) - c01 c)) true) (.ite (x == y) (k (IntKind.u64.wrap (IntKind.u64.wrap (x - y) - c01 c)) c) (k (IntKind.u64.wrap (IntKind.u64.wrap (x - y) - c01 c)) false))
theorem run58 (a0 a1 a2 a3 b0 b1 b2 b3 : Int) : runX (cxF []) no 100 Tryd.f66 (body Tryd.f66) (can l2 [.l [a0, a1, a2, a3], .l [b0, b1, b2, b3]]) gmT =
  bstepR a0 b0 false fun r0 c => bstepR a1 b1 c fun r1 c => bstepR a2 b2 c fun r2 c => bstepR a3 b3 c fun r3 _ => .ret (.ints .u64 4 [r0, r1, r2, r3]) := by kernel_rfl

theorem c01_eq (c : Bool) : c01 c = if c = true then 1 else 0 := by cases c <;> rfl
theorem bstepR_good {x y : Int} {c : Bool} {k : Int → Bool → T SV} {Q : SV → Prop} (_ : 0 ≤ x ∧ x < 18446744073709551616) (hy : 0 ≤ y ∧ y < 18446744073709551616)
    (h : (k ((x - y - c01 c) % 18446744073709551616) (decide (x < y + c01 c))).good Q) : (bstepR x y c k).good Q := by
  have e : IntKind.u64.wrap (IntKind.u64.wrap (x - y) - c01 c) = (x - y - c01 c) % 18446744073709551616 := by
    simp only [wrap_u64]; cases c <;> simp only [c01] <;> omega
  unfold bstepR
  rw [e]
  simp only [T.good, decide_eq_true_eq, decide_eq_false_iff_not, beq_iff_eq, beq_eq_false_iff_ne, ne_eq]
  refine ⟨fun h1 => ?_, fun h1 => ⟨fun h2 => ?_, fun h2 => ?_⟩⟩
  · rwa [decide_eq_true (show x < y + c01 c by cases c <;> simp only [c01] <;> omega)] at h
  · subst h2
    cases c with
    | true => rwa [decide_eq_true (show x < x + c01 true by simp only [c01]; omega)] at h
    | false => rwa [decide_eq_false (show ¬ x < x + c01 false by simp only [c01]; omega)] at h
  · rwa [decide_eq_false (show ¬ x < y + c01 c by cases c <;> simp only [c01] <;> omega)] at h

theorem c01_dec (p : Prop) [Decidable p] : c01 (decide p) = if p then 1 else 0 := by
  by_cases h : p
  · rw [decide_eq_true h, if_pos h]; rfl
  · rw [decide_eq_false h, if_neg h]; rfl

abbrev takeC : List SV → T SV := ct l2 preU2 [i4] (fun | [.l a, .l b] => [.l (toL 4 (val a - val b))] | _ => [])
theorem fn58 : FnOk Tryd.prog GT 66 takeC := by
  refine fnOk_gd (cxT_ok (fns := []) trivial) gT Tryd.func66 (c := body Tryd.f66) (by kernel_rfl) (enters_of Tryd.func66 (by kernel_rfl) (by kernel_rfl)) (fuel := 100) ?_
  intro xs hfit hp
  obtain ⟨a, b, rfl, ha, hb⟩ := fit_l2 hfit
  obtain ⟨a0, a1, a2, a3, rfl⟩ := len4 ha
  obtain ⟨b0, b1, b2, b3, rfl⟩ := len4 hb
  obtain ⟨u1, u2⟩ := hp
  have hq := u64_4.1 u1
  obtain ⟨p0, p1, p2, p3⟩ := hq
  have hr := u64_4.1 u2
  obtain ⟨q0, q1, q2, q3⟩ := hr
  have e := subL_eq 4 [a0, a1, a2, a3] [b0, b1, b2, b3] 0 rfl rfl u1 u2 (by omega) (by omega)
  rw [Int.sub_zero, Int.add_zero] at e
  simp only [subL] at e
  refine ⟨no, noBlT, fit_i4 _, Gd.of_eq (run58 a0 a1 a2 a3 b0 b1 b2 b3) ⟨?_⟩⟩
  refine bstepR_good p0 q0 (bstepR_good p1 q1 (bstepR_good p2 q2 (bstepR_good p3 q3 ?_)))
  intro ρ
  simp only [outV, can1, ← (Prod.mk.inj e).1, c01_dec]
  rfl

/-! ### Least -/
def lessT (a b : List Int) (k : Bool → T SV) : T SV := .need (U64 a ∧ U64 b) (k (decide (val a < val b)))
def takeT (a b : List Int) (k : List Int → T SV) : T SV := .need (U64 a ∧ U64 b) (k (toL 4 (val a - val b)))
def leastM : Nat → List Int → T SV
  | 0, a => lessT a primeL fun b => isT (!b) false (.ret (.ints .u64 4 a))
  | q + 1, a => lessT a primeL fun b => isT (!b) true (takeT a primeL fun r => leastM q r)
noncomputable abbrev fns53 : List (Nat × (List SV → T SV)) := [(67, primeC), (76, lessC), (66, takeC)]
theorem run53_0 (a : List Int) : prune (runX (cxF fns53) no 100 Tryd.f63 (body Tryd.f63) (can l1 [.l a]) gmT) [false] = .need True (leastM 0 a) := by kernel_rfl
theorem run53_1 (a : List Int) : prune (runX (cxF fns53) no 100 Tryd.f63 (body Tryd.f63) (can l1 [.l a]) gmT) [true, false] = .need True (leastM 1 a) := by kernel_rfl
theorem run53_2 (a : List Int) : prune (runX (cxF fns53) no 100 Tryd.f63 (body Tryd.f63) (can l1 [.l a]) gmT) [true, true, false] = .need True (leastM 2 a) := by kernel_rfl
theorem uPrime : U64 primeL := u64_4.2 (by decide)
theorem val_prime : val primeL = P25 := by decide

theorem less_P (a : Int) : (a - P25) % P25 = a % P25 := by
  have := Int.add_mul_emod_self_left (a - P25) P25 1
  rw [Int.mul_one, Int.sub_add_cancel] at this
  exact this.symm
abbrev Q53 (a : List Int) (u : SV) : Prop := ∀ ρ, u.den ρ = (outV [i4] [.l (toL 4 (val a % P25))]).den ρ
theorem least_end (a : List Int) (ua : U64 a) (hl : a.length = 4) (hlt : val a < P25) : (leastM 0 a).good (Q53 a) := by
  have hr := val_range ua
  refine ⟨⟨ua, uPrime⟩, by rw [val_prime, decide_eq_true hlt]; rfl, fun ρ => ?_⟩
  have ht := toL_val ua
  rw [hl] at ht
  rw [Int.emod_eq_of_lt hr.1 hlt, ht]
  rfl
theorem least_more (q : Nat) (a : List Int) (ua : U64 a) (hge : P25 ≤ val a) (hlt : val a < 115792089237316195423570985008687907853269984665640564039457584007913129639936)
    (h : (leastM q (toL 4 (val a - P25))).good (Q53 (toL 4 (val a - P25)))) : (leastM (q + 1) a).good (Q53 a) := by
  have hv : val (toL 4 (val a - P25)) = val a - P25 := by
    rw [val_toL4]
    exact Int.emod_eq_of_lt (by omega) (Int.lt_of_le_of_lt (Int.sub_le_self _ (by decide)) hlt)
  refine ⟨⟨ua, uPrime⟩, by rw [val_prime, decide_eq_false (by omega)]; rfl, ⟨ua, uPrime⟩, ?_⟩
  rw [val_prime]
  refine T.good_mono h fun u hu ρ => ?_
  rw [hu ρ, hv, less_P]

theorem fns53_ok : FnsOk Tryd.prog GT fns53 := ⟨fn59, fn73, fn58, trivial⟩
theorem fn53 : FnOk Tryd.prog GT 63 belowC := by
  refine fnOk_gd (cxT_ok fns53_ok) gT Tryd.func63 (c := body Tryd.f63) (by kernel_rfl) (enters_of Tryd.func63 (by kernel_rfl) (by kernel_rfl)) (fuel := 100) ?_
  intro xs hfit hp
  obtain ⟨a, rfl, ha⟩ := fit_l1 hfit
  have ua : U64 a := hp
  have hr := val4_range ua ha
  have step : ∀ x : List Int, P25 ≤ val x → val x < 115792089237316195423570985008687907853269984665640564039457584007913129639936 → val (toL 4 (val x - P25)) = val x - P25 := fun x h0 h1 => by
    rw [val_toL4]
    exact Int.emod_eq_of_lt (by omega) (Int.lt_of_le_of_lt (Int.sub_le_self _ (by decide)) h1)
  refine ⟨no, noBlT, fit_i4 _, ?_⟩
  by_cases h0 : val a < P25
  · exact Gd.of_run (run53_0 a) ⟨⟨trivial, least_end a ua ha h0⟩⟩
  · have h0 : P25 ≤ val a := by omega
    have e1 := step a h0 hr.2
    by_cases h1 : val a - P25 < P25
    · exact Gd.of_run (run53_1 a) ⟨⟨trivial, least_more 0 a ua h0 hr.2 (least_end _ (toL_u64 _ _) (toL_length _ _) (by rw [e1]; exact h1))⟩⟩
    · have h1 : P25 ≤ val (toL 4 (val a - P25)) := by rw [e1]; omega
      have hr1 : val (toL 4 (val a - P25)) < 115792089237316195423570985008687907853269984665640564039457584007913129639936 := by rw [e1]; exact Int.lt_of_le_of_lt (Int.sub_le_self _ (by decide)) hr.2
      have e2 := step _ h1 hr1
      refine Gd.of_run (run53_2 a) ⟨⟨trivial, least_more 1 a ua h0 hr.2 (least_more 0 _ (toL_u64 _ _) h1 hr1 (least_end _ (toL_u64 _ _) (toL_length _ _) ?_))⟩⟩
      rw [e2, e1]
      have hP : (115792089237316195423570985008687907853269984665640564039457584007913129639936 : Int) < P25 + P25 + P25 := by decide
      have := hr.2
      generalize P25 = p at *
      omega
theorem fn53F : FnOk Tryd.prog GF 63 belowC := fn53.mono fun _ _ => trivial
end Go.Proofs.YtkhooaaidmoogaaDoor

/- The document's answer for the field: sums, differences, bytes. -/
namespace Go.Proofs.YtkhooaaidmoogaaDoor
open Go Go.Sx
set_option maxRecDepth 100000

def bstepA (x y : Int) (c : Bool) (k : Int → Bool → T SV) : T SV :=
  .ite (decide (IntKind.u64.wrap (IntKind.u64.wrap (x + y) + c01 c) < x)) (k (IntKind.u64.wrap (IntKind.u64.wrap (x + y) + c01 c)) true) (.ite (IntKind.u64.wrap (IntKind.u64.wrap (x + y) + c01 c) == x) (k (IntKind.u64.wrap (IntKind.u64.wrap (x + y) + c01 c)) c) (k (IntKind.u64.wrap (IntKind.u64.wrap (x + y) + c01 c)) false))
theorem bstepA_good {x y : Int} {c : Bool} {k : Int → Bool → T SV} {Q : SV → Prop} (hx : 0 ≤ x ∧ x < 18446744073709551616) (hy : 0 ≤ y ∧ y < 18446744073709551616)
    (h : (k ((x + y + c01 c) % 18446744073709551616) (decide (18446744073709551616 ≤ x + y + c01 c))).good Q) : (bstepA x y c k).good Q := by
  have e : IntKind.u64.wrap (IntKind.u64.wrap (x + y) + c01 c) = (x + y + c01 c) % 18446744073709551616 := by
    simp only [wrap_u64]; cases c <;> simp only [c01] <;> omega
  unfold bstepA
  rw [e]
  simp only [T.good, decide_eq_true_eq, decide_eq_false_iff_not, beq_iff_eq, beq_eq_false_iff_ne, ne_eq]
  refine ⟨fun h1 => ?_, fun h1 => ⟨fun h2 => ?_, fun h2 => ?_⟩⟩
  · rwa [decide_eq_true (show 18446744073709551616 ≤ x + y + c01 c by cases c <;> simp only [c01] at * <;> omega)] at h
  · cases c with
    | true => rwa [decide_eq_true (show 18446744073709551616 ≤ x + y + c01 true by simp only [c01] at *; omega)] at h
    | false => rwa [decide_eq_false (show ¬ 18446744073709551616 ≤ x + y + c01 false by simp only [c01] at *; omega)] at h
  · rwa [decide_eq_false (show ¬ 18446744073709551616 ≤ x + y + c01 c by cases c <;> simp only [c01] at * <;> omega)] at h

theorem run15 (a b : List Int) : runX (cxF [(63, belowC)]) no 100 Tryd.f36 (body Tryd.f36) (can l2 [.l a, .l b]) gmT =
  belT a fun a => belT b fun b => bstepA (a.getD 0 0) (b.getD 0 0) false fun r0 c => bstepA (a.getD 1 0) (b.getD 1 0) c fun r1 c => bstepA (a.getD 2 0) (b.getD 2 0) c fun r2 c => bstepA (a.getD 3 0) (b.getD 3 0) c fun r3 _ => belT [r0, r1, r2, r3] fun r => l11 r := by kernel_rfl

theorem c01_le (s : Int) : c01 (decide (18446744073709551616 ≤ s)) = if 18446744073709551616 ≤ s then 1 else 0 := c01_dec _
theorem addA (a0 a1 a2 a3 b0 b1 b2 b3 : Int) (ha : U64 [a0, a1, a2, a3]) (hb : U64 [b0, b1, b2, b3]) (k : List Int → T SV) (Q : SV → Prop)
    (h : (k (toL 4 (val [a0, a1, a2, a3] + val [b0, b1, b2, b3]))).good Q) :
    (bstepA a0 b0 false fun r0 c => bstepA a1 b1 c fun r1 c => bstepA a2 b2 c fun r2 c => bstepA a3 b3 c fun r3 _ => k [r0, r1, r2, r3]).good Q := by
  have hq := u64_4.1 ha
  obtain ⟨p0, p1, p2, p3⟩ := hq
  have hr := u64_4.1 hb
  obtain ⟨q0, q1, q2, q3⟩ := hr
  have e := addL_eq 4 [a0, a1, a2, a3] [b0, b1, b2, b3] 0 rfl rfl
  rw [Int.add_zero] at e
  simp only [addL] at e
  refine bstepA_good p0 q0 (bstepA_good p1 q1 (bstepA_good p2 q2 (bstepA_good p3 q3 ?_)))
  rw [← (Prod.mk.inj e).1] at h
  have c (x y z : Int) (hx : 0 ≤ x ∧ x < 18446744073709551616) (hy : 0 ≤ y ∧ y < 18446744073709551616) (hz : 0 ≤ z ∧ z ≤ 1) : c01 (decide (18446744073709551616 ≤ x + y + z)) = (x + y + z) / 18446744073709551616 := by
    rw [c01_le]; split <;> omega
  have d0 : c01 false = 0 := rfl
  have e0 := c a0 b0 0 p0 q0 (by omega)
  have e1 := c a1 b1 ((a0 + b0 + 0) / 18446744073709551616) p1 q1 (by omega)
  have e2 := c a2 b2 ((a1 + b1 + (a0 + b0 + 0) / 18446744073709551616) / 18446744073709551616) p2 q2 (by omega)
  rw [d0, e0, e1, e2]
  exact h

theorem fn15 : FnOk Tryd.prog GT 36 addC := by
  refine fnOk_gd (cxT_ok (fns := [(63, belowC)]) ⟨fn53, trivial⟩) gT Tryd.func36 (c := body Tryd.f36) (by kernel_rfl) (enters_of Tryd.func36 (by kernel_rfl) (by kernel_rfl)) (fuel := 100) ?_
  intro xs hfit hp
  obtain ⟨a, b, rfl, ha, hb⟩ := fit_l2 hfit
  obtain ⟨u1, u2⟩ := hp
  refine ⟨no, noBlT, fit_i4 _, Gd.of_eq (run15 a b) ⟨?_⟩⟩
  simp only [belT, T.good]
  refine ⟨u1, u2, ?_⟩
  have va := val_toLP (val a)
  have vb := val_toLP (val b)
  obtain ⟨a0, a1, a2, a3, ea⟩ := len4 (toL_length 4 (val a % P25))
  obtain ⟨b0, b1, b2, b3, eb⟩ := len4 (toL_length 4 (val b % P25))
  have ua : U64 [a0, a1, a2, a3] := ea ▸ toL_u64 4 _
  have ub : U64 [b0, b1, b2, b3] := eb ▸ toL_u64 4 _
  rw [ea, eb]
  rw [ea] at va
  rw [eb] at vb
  simp only [List.getD_cons_succ, List.getD_cons_zero]
  refine addA a0 a1 a2 a3 b0 b1 b2 b3 ua ub (fun s => .need (U64 s) (l11 (toL 4 (val s % P25)))) _ ⟨toL_u64 _ _, fun ρ => ?_⟩
  have h1 := modP (val a)
  have h2 := modP (val b)
  rw [va, vb, val_toL4, Int.emod_eq_of_lt (a := val a % P25 + val b % P25) (by omega) (by simp only [P25] at *; omega), ← Int.add_emod]
  rfl

theorem run21 (a : List Int) : runX (cxF [(63, belowC), (67, primeC), (66, takeC)]) no 100 Tryd.f46 (body Tryd.f46) (can l1 [.l a]) gmT = .need True (belT a fun a => takeT primeL a fun s => belT s fun r => l11 r) := by kernel_rfl
theorem fn21 : FnOk Tryd.prog GT 46 negC := by
  refine fnOk_gd (cxT_ok (fns := [(63, belowC), (67, primeC), (66, takeC)]) ⟨fn53, fn59, fn58, trivial⟩) gT Tryd.func46 (c := body Tryd.f46) (by kernel_rfl) (enters_of Tryd.func46 (by kernel_rfl) (by kernel_rfl)) (fuel := 100) ?_
  intro xs hfit hp
  obtain ⟨a, rfl, ha⟩ := fit_l1 hfit
  have u1 : U64 a := hp
  refine ⟨no, noBlT, fit_i4 _, Gd.of_eq (run21 a) ⟨?_⟩⟩
  simp only [belT, takeT, T.good, val_toLP, val_prime]
  refine ⟨trivial, u1, ⟨uPrime, ut4 _⟩, ut4 _, fun ρ => ?_⟩
  have hm := modP (val a)
  have e1 : val (toL 4 (P25 - val a % P25)) = P25 - val a % P25 := by
    rw [val_toL4]; exact Int.emod_eq_of_lt (by omega) (by simp only [P25] at *; omega)
  rw [e1]
  have e2 : (P25 - val a % P25) % P25 = (-val a) % P25 := by
    apply fp_eq.1
    rw [fp_sub, fp_mod, fp_neg, show fp P25 = 0 by rw [fp_zero_iff]; decide]
    grind
  rw [e2]
  rfl
theorem run17 (a b : List Int) : runX (cxF [(36, addC), (46, negC)]) no 100 Tryd.f38 (body Tryd.f38) (can l2 [.l a, .l b]) gmT = (neg1T b fun n => add2T a n fun r => l11 r) := by kernel_rfl
theorem fn17 : FnOk Tryd.prog GT 38 subC := by
  refine fnOk_gd (cxT_ok (fns := [(36, addC), (46, negC)]) ⟨fn15, fn21, trivial⟩) gT Tryd.func38 (c := body Tryd.f38) (by kernel_rfl) (enters_of Tryd.func38 (by kernel_rfl) (by kernel_rfl)) (fuel := 100) ?_
  intro xs hfit hp
  obtain ⟨a, b, rfl, ha, hb⟩ := fit_l2 hfit
  obtain ⟨u1, u2⟩ := hp
  refine ⟨no, noBlT, fit_i4 _, Gd.of_eq (run17 a b) ⟨?_⟩⟩
  simp only [neg1T, add2T, T.good, val_toLP]
  refine ⟨u2, ⟨u1, ut4 _⟩, fun ρ => ?_⟩
  rw [Int.add_emod, Int.emod_emod_of_dvd _ (Int.dvd_refl P25), ← Int.add_emod, Int.sub_eq_add_neg]
  rfl

end Go.Proofs.YtkhooaaidmoogaaDoor

/- scalar.left: what is left over of a number, divided by L. -/
namespace Go.Proofs.YtkhooaaidmoogaaDoor
open Go Go.Sx
set_option maxRecDepth 100000

def L25 : Int := 7237005577332262213973186563042994240857116359379907606001950938285454250989

def ksL : Fg := ⟨[.keep, .keep, .keep, .keep, .keep, .soft] ++ List.replicate 16 .junk, 4, 6⟩
def jsL : Fg := ⟨[.keep, .keep, .keep, .keep, .keep, .junk] ++ List.replicate 16 .junk, 4, 6⟩
def memL (n rest : List Int) : Mem := gmS ++ [(0, .st true [.ints .u64 8 n]), (1, .st true [.ints .u64 4 [0, 0, 0, 0]]), (2, .st true [.ints .u64 4 rest])]
def invL (n : List Int) (i : Int) (rest : List Int) : St := ⟨[.ints .u64 8 n, ptr0 0, ptr0 1, ptr0 2, .fn 74 [ptr0 2], .int .i64 i] ++ junks 6 16, memL n rest, 6⟩
def outL (n rest : List Int) : St := ⟨[.ints .u64 8 n, ptr0 0, ptr0 1, ptr0 2, .fn 74 [ptr0 2]] ++ junks 5 17, memL n rest, 6⟩
noncomputable def bodyL : Code := unloop (Code.blk (body Tryd.f57) 0)

def minus2T {α : Type} (a b : List Int) (k : List Int → Int → T α) : T α := .need (U64 a ∧ U64 b) (k (toL 4 (val a - val b)) (if val a < val b then 1 else 0))
def shl4 (r0 r1 r2 r3 bit : Int) : List Int := [bitsI .or .u64 (shlI .u64 r0 1) bit, bitsI .or .u64 (shlI .u64 r1 1) (shrI .u64 r0 63), bitsI .or .u64 (shlI .u64 r2 1) (shrI .u64 r1 63), bitsI .or .u64 (shlI .u64 r3 1) (shrI .u64 r2 63)]
def bitAt (n : List Int) (i : Int) : Int := bitsI .and .u64 (shrI .u64 (n.getD (IntKind.i64.wrap (i.tdiv 64)).toNat 0) (i.tmod 64)) 1

theorem roundL (n : List Int) (i r0 r1 r2 r3 : Int) : endOf ksL jsL (exec cxL (drawS cxL) no 100 bodyL (invL n i [r0, r1, r2, r3])) =
  .ite (decide (i ≥ 0)) (.need (0 ≤ IntKind.i64.wrap (i.tdiv 64) ∧ IntKind.i64.wrap (i.tdiv 64) < 8) (.need ((IntKind.i64.wrap (i.tdiv 64)).toNat + 1 ≤ 8) (.need (0 ≤ i.tmod 64)
    (minus2T (shl4 r0 r1 r2 r3 (bitAt n i)) orderL fun less under =>
      .ite (under == 0) (.ret (.normal, invL n (IntKind.i64.wrap (i - 1)) less)) (.ret (.normal, invL n (IntKind.i64.wrap (i - 1)) (shl4 r0 r1 r2 r3 (bitAt n i))))))))
  (.ret (.exit 0, outL n [r0, r1, r2, r3])) := by kernel_rfl

noncomputable def blL (n rest : List Int) : Blocks := fun i => match Nat.beq i 0 with
  | true => some (loopF ksL (invL n 511 [0, 0, 0, 0]) (outL n rest))
  | false => none
theorem run64 (n rest : List Int) : runX cxL (blL n rest) 100 Tryd.f57 (body Tryd.f57) (can [.ints .u64 8] [.l n]) gmS =
  .need (invL n 511 [0, 0, 0, 0] = invL n 511 [0, 0, 0, 0]) (.ret (.ints .u64 4 rest)) := by kernel_rfl

theorem or1 (x b : Int) (hx : 0 ≤ x ∧ x < 18446744073709551616) (hb : 0 ≤ b ∧ b < 2) : bitsI .or .u64 (shlI .u64 x 1) b = 2 * x % 18446744073709551616 + b := by
  obtain ⟨X, rfl⟩ := Int.eq_ofNat_of_zero_le hx.1
  obtain ⟨B, rfl⟩ := Int.eq_ofNat_of_zero_le hb.1
  have e : shlI .u64 (X : Int) 1 = ((2 * (X % 9223372036854775808) : Nat) : Int) := by
    have : shlI .u64 (X : Int) 1 = ((X : Int) * 2) % 18446744073709551616 := by rw [← wrap_u64]; rfl
    rw [this]
    simp only [Int.natCast_mul, Int.natCast_emod]
    omega
  rw [e]
  have e2 : bitsI .or .u64 ((2 * (X % 9223372036854775808) : Nat) : Int) (B : Int) = ((2 * (X % 9223372036854775808) ||| B : Nat) : Int) := u64_or_nat _ _ (by omega) (by omega)
  rw [e2]
  have h := Nat.two_pow_add_eq_or_of_lt (i := 1) (b := B) (by omega) (X % 9223372036854775808)
  rw [Nat.pow_one] at h
  rw [← h]
  omega

theorem shr63b (x : Int) (hx : 0 ≤ x ∧ x < 18446744073709551616) : shrI .u64 x 63 = x / 9223372036854775808 ∧ 0 ≤ shrI .u64 x 63 ∧ shrI .u64 x 63 < 2 := by
  have e : shrI .u64 x ((63 : Nat) : Int) = x / 2 ^ 63 := shrI_u64 x 63 (by omega)
  have e : shrI .u64 x 63 = x / 9223372036854775808 := e
  rw [e]
  omega

theorem shl4_spec (r0 r1 r2 r3 b : Int) (h : U64 [r0, r1, r2, r3]) (hb : 0 ≤ b ∧ b < 2) (hr : val [r0, r1, r2, r3] < 57896044618658097711785492504343953926634992332820282019728792003956564819968) :
    U64 (shl4 r0 r1 r2 r3 b) ∧ val (shl4 r0 r1 r2 r3 b) = 2 * val [r0, r1, r2, r3] + b := by
  have hq := u64_4.1 h
  obtain ⟨h0, h1, h2, h3⟩ := hq
  obtain ⟨a0, b0⟩ := shr63b r0 h0
  obtain ⟨a1, b1⟩ := shr63b r1 h1
  obtain ⟨a2, b2⟩ := shr63b r2 h2
  unfold shl4
  rw [or1 r0 b h0 hb, or1 r1 _ h1 b0, or1 r2 _ h2 b1, or1 r3 _ h3 b2, a0, a1, a2]
  simp only [val] at hr ⊢
  have h3' : r3 < 9223372036854775808 := by omega
  refine ⟨u64_4.2 ⟨by omega, by omega, by omega, by omega⟩, by omega⟩

theorem val8_range {a : List Int} (h : U64 a) (hl : a.length = 8) : 0 ≤ val a ∧ val a < 2 ^ 512 := by
  have := val_range h
  rw [hl, show pw 8 = 2 ^ 512 by decide +kernel] at this
  exact this

theorem L_pos : (0 : Int) < L25 := by decide
theorem modL (x : Int) : 0 ≤ x % L25 ∧ x % L25 < L25 := ⟨Int.emod_nonneg _ (by decide), Int.emod_lt_of_pos _ (by decide)⟩
theorem val_toLL (x : Int) : val (toL 4 (x % L25)) = x % L25 := by
  rw [val_toL4]
  have := modL x
  exact Int.emod_eq_of_lt this.1 (Int.lt_trans this.2 (by decide))
theorem val_order : val orderL = L25 := by decide
theorem uOrder : U64 orderL := u64_4.2 (by decide)

/-- A step of the division. -/
theorem step_mod (X b : Int) : (2 * X + b) % L25 = (2 * (X % L25) + b) % L25 := by
  rw [Int.add_emod, Int.mul_emod, Int.add_emod (2 * (X % L25)), Int.mul_emod 2 (X % L25), Int.emod_emod_of_dvd _ (Int.dvd_refl L25)]

noncomputable def InvL (n : List Int) (i : Nat) : St := invL n (511 - i) (toL 4 (val n / 2 ^ (512 - i) % L25))

theorem half_step (N : Int) (i : Nat) (_ : 0 ≤ N) (hi : i < 512) : N / 2 ^ (512 - (i + 1)) = 2 * (N / 2 ^ (512 - i)) + N / 2 ^ (511 - i) % 2 := by
  have e : (2 : Int) ^ (512 - i) = 2 ^ (511 - i) * 2 := by rw [show 512 - i = (511 - i) + 1 by omega, Int.pow_succ]
  rw [show 512 - (i + 1) = 511 - i by omega, e, ← Int.ediv_ediv_of_nonneg (Int.le_of_lt (Int.pow_pos (by decide)))]
  omega

theorem roundL_good (n : List Int) (un : U64 n) (hn : n.length = 8) (i : Nat) (hi : i ≤ 512) : (endOf ksL jsL (exec cxL (drawS cxL) no 100 bodyL (InvL n i))).good fun r => match r.1 with
      | .normal => ∃ i', i' ≤ 512 ∧ r.2 = InvL n i' ∧ 512 - i' < 512 - i
      | .exit j => j = 0 ∧ r.2 = outL n (toL 4 (val n % L25))
      | .ret => False := by
  have rn := val8_range un hn
  have hx := modL (val n / 2 ^ (512 - i))
  have hvx := val_toLL (val n / 2 ^ (512 - i))
  obtain ⟨r0, r1, r2, r3, e⟩ := len4 (toL_length 4 (val n / 2 ^ (512 - i) % L25))
  have ur : U64 [r0, r1, r2, r3] := e ▸ toL_u64 4 _
  unfold InvL
  rw [e] at hvx ⊢
  rw [roundL]
  simp only [T.good, minus2T, decide_eq_true_eq, decide_eq_false_iff_not, ge_iff_le]
  refine ⟨fun hlt => ?_, fun hlt => ?_⟩
  · have hi' : i < 512 := by omega
    rw [wrap_i64 ((511 - (i : Int)).tdiv 64) (by rw [Int.tdiv_eq_ediv_of_nonneg (by omega)]; omega), wrap_i64 (511 - (i : Int) - 1) (by omega),
      Int.tdiv_eq_ediv_of_nonneg (by omega), Int.tmod_eq_emod_of_nonneg (by omega)]
    have hb : bitAt n (511 - (i : Int)) = val n / 2 ^ (511 - i) % 2 := by
      have hq : ((511 - (i : Int)) / 64).toNat = (511 - i) / 64 := by omega
      have hr : (511 - (i : Int)) % 64 = (((511 - i) % 64 : Nat) : Int) := by omega
      have hs : 64 * ((511 - i) / 64) + (511 - i) % 64 = 511 - i := by omega
      have hd := digit_bit n ((511 - i) / 64) ((511 - i) % 64) un (by omega)
      rw [hs] at hd
      have hg' := U64.getD un ((511 - i) / 64)
      have hdiv : 0 ≤ n.getD ((511 - i) / 64) 0 / 2 ^ ((511 - i) % 64) ∧ n.getD ((511 - i) / 64) 0 / 2 ^ ((511 - i) % 64) < 18446744073709551616 :=
        ⟨Int.ediv_nonneg hg'.1 (Int.le_of_lt (Int.pow_pos (by decide))), Int.lt_of_le_of_lt (Int.ediv_le_self _ hg'.1) hg'.2⟩
      unfold bitAt
      rw [wrap_i64 ((511 - (i : Int)).tdiv 64) (by rw [Int.tdiv_eq_ediv_of_nonneg (by omega)]; omega), Int.tdiv_eq_ediv_of_nonneg (by omega), Int.tmod_eq_emod_of_nonneg (by omega), hq, hr, shrI_u64 _ _ (by omega), and1 _ hdiv, ← hd]
    rw [hb]
    have hbr : 0 ≤ val n / 2 ^ (511 - i) % 2 ∧ val n / 2 ^ (511 - i) % 2 < 2 := by omega
    have hstep := half_step (val n) i rn.1 hi'
    have hsm := step_mod (val n / 2 ^ (512 - i)) (val n / 2 ^ (511 - i) % 2)
    rw [← hstep, ← hvx] at hsm
    rw [← hvx] at hx
    have hsp := shl4_spec r0 r1 r2 r3 _ ur hbr (Int.lt_trans hx.2 (by decide))
    obtain ⟨s1, s2⟩ := hsp
    refine ⟨by omega, by omega, by omega, ⟨s1, uOrder⟩, ?_⟩
    rw [val_order, s2]
    have hlen : (shl4 r0 r1 r2 r3 (val n / 2 ^ (511 - i) % 2)).length = 4 := rfl
    have htl := toL_val s1
    rw [hlen, s2] at htl
    generalize val [r0, r1, r2, r3] = R at *
    generalize val n / 2 ^ (511 - i) % 2 = b at *
    refine ⟨fun hu => ⟨i + 1, by omega, ?_, by omega⟩, fun hu => ⟨i + 1, by omega, ?_, by omega⟩⟩
    · have hge : ¬ 2 * R + b < L25 := by
        intro hlt; rw [if_pos hlt] at hu; cases hu
      have : (2 * R + b) % L25 = 2 * R + b - L25 := by
        have h1 := Int.add_mul_emod_self_left (2 * R + b - L25) L25 1
        rw [Int.mul_one, Int.sub_add_cancel] at h1
        rw [h1]
        exact Int.emod_eq_of_lt (by omega) (by omega)
      rw [hsm, this]
      congr 1
      omega
    · have hlt : 2 * R + b < L25 := by
        apply Classical.byContradiction
        intro hge; rw [if_neg hge] at hu; cases hu
      have : (2 * R + b) % L25 = 2 * R + b := Int.emod_eq_of_lt (by omega) hlt
      rw [hsm, this, htl]
      congr 1
      omega
  · have : i = 512 := by omega
    subst this
    refine ⟨trivial, ?_⟩
    rw [← e]
    simp

abbrev leftC : List SV → T SV := ct [i8] (fun | [.l a] => U64 a | _ => False) [i4] (fun | [.l a] => [.l (toL 4 (val a % L25))] | _ => [])
theorem fn64 : FnOk Tryd.prog GS 57 leftC := by
  refine fnOk_lp cxL_ok gS Tryd.func57 (c := body Tryd.f57) (by kernel_rfl) (enters_of Tryd.func57 (by kernel_rfl) (by kernel_rfl)) (fuel := 100) ?_
  intro xs hfit hp
  obtain ⟨n, rfl, hn⟩ := fit_l1 hfit
  have un : U64 n := hp
  have rn := val8_range un hn
  refine ⟨blL n (toL 4 (val n % L25)), ?_, fit_i4 _, ?_⟩
  · intro Γ hG h0 hg hz
    refine blocksIn_of _ fun id f hf b hb => ?_
    have hid : id = 0 := by
      simp only [blL] at hf
      split at hf
      · rename_i h; exact Nat.eq_of_beq_eq_true h
      · cases hf
    subst hid
    have hbl : blksL (body Tryd.f57) 0 = [.loop bodyL] := by kernel_rfl
    rw [hbl] at hb
    have hb := List.mem_singleton.1 hb
    subst hb
    have hf : loopF ksL (invL n 511 [0, 0, 0, 0]) (outL n (toL 4 (val n % L25))) = f := by
      simpa [blL] using hf
    subst hf
    have e0 : invL n 511 [0, 0, 0, 0] = InvL n 0 := by
      unfold InvL
      rw [show val n / 2 ^ (512 - 0) = 0 from Int.ediv_eq_zero_of_lt rn.1 rn.2]
      rfl
    rw [e0]
    exact loop_rule (hG ▸ cxL_ok) hg h0 (drawS_sound (hG ▸ cxL_ok) hg h0) (bl := no) (blocksIn_none _) (InvL n) (fun i => 512 - i) (fun i => i ≤ 512) _ 100 ksL jsL (by rw [hz]; exact Nat.zero_le _) (by rw [hz]; exact Nat.zero_le _)
      (roundL_good n un hn) 0 (Nat.zero_le _)
  · rw [run64]
    simp only [T.good]
    exact ⟨trivial, rfl⟩
end Go.Proofs.YtkhooaaidmoogaaDoor

/- Package scalar: contracts of its functions. -/
namespace Go.Proofs.YtkhooaaidmoogaaDoor
open Go Go.Sx
set_option maxRecDepth 100000

def left1T (n : List Int) (k : List Int → T SV) : T SV := .need (U64 n) (k (toL 4 (val n % L25)))

/-! ### numbers -/
theorem len64 {l : List Int} (h : l.length = 64) : ∃ b0 b1 b2 b3 b4 b5 b6 b7 b8 b9 b10 b11 b12 b13 b14 b15 b16 b17 b18 b19 b20 b21 b22 b23 b24 b25 b26 b27 b28 b29 b30 b31 b32 b33 b34 b35 b36 b37 b38 b39 b40 b41 b42 b43 b44 b45 b46 b47 b48 b49 b50 b51 b52 b53 b54 b55 b56 b57 b58 b59 b60 b61 b62 b63, l = [b0, b1, b2, b3, b4, b5, b6, b7, b8, b9, b10, b11, b12, b13, b14, b15, b16, b17, b18, b19, b20, b21, b22, b23, b24, b25, b26, b27, b28, b29, b30, b31, b32, b33, b34, b35, b36, b37, b38, b39, b40, b41, b42, b43, b44, b45, b46, b47, b48, b49, b50, b51, b52, b53, b54, b55, b56, b57, b58, b59, b60, b61, b62, b63] := by
  have h1 : (l.take 32).length = 32 := by rw [List.length_take]; omega
  have h2 : (l.drop 32).length = 32 := by rw [List.length_drop]; omega
  obtain ⟨b0, b1, b2, b3, b4, b5, b6, b7, b8, b9, b10, b11, b12, b13, b14, b15, b16, b17, b18, b19, b20, b21, b22, b23, b24, b25, b26, b27, b28, b29, b30, b31, e1⟩ := len32 h1
  obtain ⟨b32, b33, b34, b35, b36, b37, b38, b39, b40, b41, b42, b43, b44, b45, b46, b47, b48, b49, b50, b51, b52, b53, b54, b55, b56, b57, b58, b59, b60, b61, b62, b63, e2⟩ := len32 h2
  refine ⟨b0, b1, b2, b3, b4, b5, b6, b7, b8, b9, b10, b11, b12, b13, b14, b15, b16, b17, b18, b19, b20, b21, b22, b23, b24, b25, b26, b27, b28, b29, b30, b31, b32, b33, b34, b35, b36, b37, b38, b39, b40, b41, b42, b43, b44, b45, b46, b47, b48, b49, b50, b51, b52, b53, b54, b55, b56, b57, b58, b59, b60, b61, b62, b63, ?_⟩
  rw [← List.take_append_drop 32 l, e1, e2]
  rfl
abbrev numbersC : List SV → T SV := ct [.ints .u8 64] (fun | [.l b] => U8 b | _ => False) [i8] (fun | [.l b] => [.l (toL 8 (bv b))] | _ => [])
/-! ### Of, From, below -/
def num1T {α : Type} (b : List Int) (k : List Int → T α) : T α := .need (U8 b) (k (toL 8 (bv b)))
abbrev ofSC : List SV → T SV := ct [.ints .u8 64] (fun | [.l b] => U8 b | _ => False) [i4] (fun | [.l b] => [.l (toL 4 (bv b % L25))] | _ => [])
theorem bv_range : ∀ {l : List Int}, U8 l → 0 ≤ bv l ∧ bv l < 256 ^ l.length
  | [], _ => by simp [bv]
  | x :: l, h => by
    have h1 := h x (by simp)
    have h2 := bv_range (l := l) (fun y hy => h y (by simp [hy]))
    simp only [bv, List.length_cons, Int.pow_succ]
    omega
theorem val_toL8b (b : List Int) (h : U8 b) (hl : b.length = 64) : val (toL 8 (bv b)) = bv b := by
  have := bv_range h
  rw [hl] at this
  exact val_toL8 _ this.1 (by rw [show (256 : Int) ^ 64 = 13407807929942597099574024998205846127479365820592393377723561443721764030073546976801874298166903427690031858186486050853753882811946569946433649006084096 by decide +kernel] at this; exact this.2)
def z32 : List Int := List.replicate 32 0
theorem bv_z (l : List Int) (k : Nat) : bv (l ++ List.replicate k 0) = bv l := by
  induction l with
  | nil => induction k with
    | zero => rfl
    | succ k ih => simp only [List.nil_append, List.replicate_succ, bv] at *; rw [ih]; rfl
  | cons x l ih => simp only [List.cons_append, bv, ih]
def ofS1T {α : Type} (b : List Int) (k : List Int → T α) : T α := .need (U8 b) (k (toL 4 (bv b % L25)))
theorem splice32 (b : List Int) (hb : b.length = 32) : splice (List.replicate 64 0) 0 b = b ++ List.replicate 32 0 := by
  simp [splice, hb]
theorem U8_z {b : List Int} (h : U8 b) (k : Nat) : U8 (b ++ List.replicate k 0) := U8.append.2 ⟨h, fun x hx => by rw [List.mem_replicate] at hx; omega⟩
abbrev fromSC : List SV → T SV := ct [.ints .u8 32] (fun | [.l b] => U8 b | _ => False) [i4] (fun | [.l b] => [.l (toL 4 (bv b % L25))] | _ => [])
theorem run67 (a : List Int) : runX (cxF [(57, leftC)]) no 100 Tryd.f52 (body Tryd.f52) (can l1 [.l a]) gmS = left1T (splice (List.replicate 8 0) 0 a) fun r => l11 r := by kernel_rfl
theorem val_z (l : List Int) (k : Nat) : val (l ++ List.replicate k 0) = val l := by
  induction l with
  | nil => induction k with
    | zero => rfl
    | succ k ih => simp only [List.nil_append, List.replicate_succ, val] at *; rw [ih]; rfl
  | cons x l ih => simp only [List.cons_append, val, ih]
abbrev belowSC : List SV → T SV := ct l1 (fun | [.l a] => U64 a | _ => False) [i4] (fun | [.l a] => [.l (toL 4 (val a % L25))] | _ => [])
theorem fn67 : FnOk Tryd.prog GS 52 belowSC := by
  refine fnOk_ct (cxS_ok (fns := [(57, leftC)]) ⟨fn64, trivial⟩) gS Tryd.func52 (c := body Tryd.f52) (by kernel_rfl) (enters_of Tryd.func52 (by kernel_rfl) (by kernel_rfl)) (bl := no) (fuel := 100) noBlS ?_
  intro xs hfit hp
  obtain ⟨a, rfl, ha⟩ := fit_l1 hfit
  have ua : U64 a := hp
  refine ⟨fit_i4 _, ?_⟩
  rw [run67, show splice (List.replicate 8 0) 0 a = a ++ List.replicate 4 0 by simp [splice, ha]]
  simp only [left1T, T.good]
  refine ⟨fun x hx => ?_, ?_⟩
  · rcases List.mem_append.1 hx with hx | hx
    · exact ua x hx
    · rw [List.mem_replicate] at hx; omega
  · rw [val_z]
    rfl

/-! ### Add, Mul -/
def a64T (x y c : Int) (k : Int → Int → T SV) : T SV := .need (0 ≤ x ∧ 0 ≤ y ∧ 0 ≤ c ∧ c ≤ 1) (k ((x + y + c) % 18446744073709551616) ((x + y + c) / 18446744073709551616))
def mul64T (x y : Int) (k : Int → Int → T SV) : T SV := .need ((0 ≤ x ∧ x < 18446744073709551616) ∧ (0 ≤ y ∧ y < 18446744073709551616)) (k (x * y / 18446744073709551616) (x * y % 18446744073709551616))
theorem run36 (x0 x1 x2 x3 y0 y1 y2 y3 : Int) : runX (cxF [(57, leftC)]) no 100 Tryd.f26 (body Tryd.f26) (can l2 [.l [x0, x1, x2, x3], .l [y0, y1, y2, y3]]) gmS =
  (a64T x0 y0 0 fun r0 c => a64T x1 y1 c fun r1 c => a64T x2 y2 c fun r2 c => a64T x3 y3 c fun r3 c => left1T [r0, r1, r2, r3, c, 0, 0, 0] fun r => l11 r) := by kernel_rfl
abbrev addSC : List SV → T SV := ct l2 (fun | [.l a, .l b] => U64 a ∧ U64 b | _ => False) [i4] (fun | [.l a, .l b] => [.l (toL 4 ((val a + val b) % L25))] | _ => [])
theorem fn36 : FnOk Tryd.prog GS 26 addSC := by
  refine fnOk_ct (cxS_ok (fns := [(57, leftC)]) ⟨fn64, trivial⟩) gS Tryd.func26 (c := body Tryd.f26) (by kernel_rfl) (enters_of Tryd.func26 (by kernel_rfl) (by kernel_rfl)) (bl := no) (fuel := 100) noBlS ?_
  intro xs hfit hp
  obtain ⟨a, b, rfl, ha, hb⟩ := fit_l2 hfit
  obtain ⟨x0, x1, x2, x3, rfl⟩ := len4 ha
  obtain ⟨y0, y1, y2, y3, rfl⟩ := len4 hb
  obtain ⟨u1, u2⟩ := hp
  have hq := u64_4.1 u1
  obtain ⟨a0, a1, a2, a3⟩ := hq
  have hq := u64_4.1 u2
  obtain ⟨b0, b1, b2, b3⟩ := hq
  refine ⟨fit_i4 _, ?_⟩
  rw [run36]
  simp only [a64T, left1T, T.good]
  have e : val [(x0 + y0 + 0) % 18446744073709551616, (x1 + y1 + (x0 + y0 + 0) / 18446744073709551616) % 18446744073709551616, (x2 + y2 + (x1 + y1 + (x0 + y0 + 0) / 18446744073709551616) / 18446744073709551616) % 18446744073709551616, (x3 + y3 + (x2 + y2 + (x1 + y1 + (x0 + y0 + 0) / 18446744073709551616) / 18446744073709551616) / 18446744073709551616) % 18446744073709551616,
      (x3 + y3 + (x2 + y2 + (x1 + y1 + (x0 + y0 + 0) / 18446744073709551616) / 18446744073709551616) / 18446744073709551616) / 18446744073709551616, 0, 0, 0] = val [x0, x1, x2, x3] + val [y0, y1, y2, y3] := by
    simp only [val]; omega
  rw [e]
  refine ⟨by omega, by omega, by omega, by omega, u64_8 (by omega) (by omega) (by omega) (by omega) (by omega) (by omega) (by omega) (by omega), rfl⟩

def mstepT (a b c d : Int) (k : Int → Int → T SV) : T SV :=
  mul64T a b fun hi lo => a64T lo c 0 fun lo1 c1 => a64T lo1 d 0 fun lo2 c2 => k lo2 (IntKind.u64.wrap (IntKind.u64.wrap (hi + c1) + c2))
theorem mstepT_good {a b c d : Int} {k : Int → Int → T SV} {Q : SV → Prop} (ha : 0 ≤ a ∧ a < 18446744073709551616) (hb : 0 ≤ b ∧ b < 18446744073709551616) (hc : 0 ≤ c ∧ c < 18446744073709551616) (hd : 0 ≤ d ∧ d < 18446744073709551616)
    (h : ∀ lo hi, (0 ≤ lo ∧ lo < 18446744073709551616) → (0 ≤ hi ∧ hi < 18446744073709551616) → lo + 18446744073709551616 * hi = a * b + c + d → (k lo hi).good Q) : (mstepT a b c d k).good Q := by
  have hm := mulDivMod a b c d ha hb hc hd
  simp only [mstepT, mul64T, a64T, T.good, wrap_u64]
  generalize a * b = m at *
  refine ⟨⟨ha, hb⟩, by omega, by omega, h _ _ ?_ ?_ ?_⟩ <;> omega

def prodM (x0 x1 x2 x3 y0 y1 y2 y3 : Int) : T SV :=
  mstepT x0 y0 0 0 fun l00 h00 =>
  mstepT x0 y1 0 h00 fun l01 h01 =>
  mstepT x0 y2 0 h01 fun l02 h02 =>
  mstepT x0 y3 0 h02 fun l03 h03 =>
  mstepT x1 y0 l01 0 fun l10 h10 =>
  mstepT x1 y1 l02 h10 fun l11 h11 =>
  mstepT x1 y2 l03 h11 fun l12 h12 =>
  mstepT x1 y3 h03 h12 fun l13 h13 =>
  mstepT x2 y0 l11 0 fun l20 h20 =>
  mstepT x2 y1 l12 h20 fun l21 h21 =>
  mstepT x2 y2 l13 h21 fun l22 h22 =>
  mstepT x2 y3 h13 h22 fun l23 h23 =>
  mstepT x3 y0 l21 0 fun l30 h30 =>
  mstepT x3 y1 l22 h30 fun l31 h31 =>
  mstepT x3 y2 l23 h31 fun l32 h32 =>
  mstepT x3 y3 h23 h32 fun l33 h33 =>
  left1T [l00, l10, l20, l30, l31, l32, l33, h33] fun r => .ret (.ints .u64 4 r)
theorem run38 (x0 x1 x2 x3 y0 y1 y2 y3 : Int) : runX (cxF [(58, spG n2 mul64F), (57, leftC)]) no 100 Tryd.f27 (body Tryd.f27) (can l2 [.l [x0, x1, x2, x3], .l [y0, y1, y2, y3]]) gmS = prodM x0 x1 x2 x3 y0 y1 y2 y3 := by kernel_rfl
theorem prodM_good (x0 x1 x2 x3 y0 y1 y2 y3 : Int) (bx0 : 0 ≤ x0 ∧ x0 < 18446744073709551616) (bx1 : 0 ≤ x1 ∧ x1 < 18446744073709551616) (bx2 : 0 ≤ x2 ∧ x2 < 18446744073709551616) (bx3 : 0 ≤ x3 ∧ x3 < 18446744073709551616) (by0 : 0 ≤ y0 ∧ y0 < 18446744073709551616) (by1 : 0 ≤ y1 ∧ y1 < 18446744073709551616) (by2 : 0 ≤ y2 ∧ y2 < 18446744073709551616) (by3 : 0 ≤ y3 ∧ y3 < 18446744073709551616) : (prodM x0 x1 x2 x3 y0 y1 y2 y3).good fun u => u = .ints .u64 4 (toL 4 (val [x0, x1, x2, x3] * val [y0, y1, y2, y3] % L25)) := by
  have b0 : 0 ≤ (0 : Int) ∧ (0 : Int) < 18446744073709551616 := by omega
  unfold prodM
  refine mstepT_good bx0 by0 b0 b0 fun l00 h00 bl00 bh00 el00 => ?_
  refine mstepT_good bx0 by1 b0 bh00 fun l01 h01 bl01 bh01 el01 => ?_
  refine mstepT_good bx0 by2 b0 bh01 fun l02 h02 bl02 bh02 el02 => ?_
  refine mstepT_good bx0 by3 b0 bh02 fun l03 h03 bl03 bh03 el03 => ?_
  refine mstepT_good bx1 by0 bl01 b0 fun l10 h10 bl10 bh10 el10 => ?_
  refine mstepT_good bx1 by1 bl02 bh10 fun l11 h11 bl11 bh11 el11 => ?_
  refine mstepT_good bx1 by2 bl03 bh11 fun l12 h12 bl12 bh12 el12 => ?_
  refine mstepT_good bx1 by3 bh03 bh12 fun l13 h13 bl13 bh13 el13 => ?_
  refine mstepT_good bx2 by0 bl11 b0 fun l20 h20 bl20 bh20 el20 => ?_
  refine mstepT_good bx2 by1 bl12 bh20 fun l21 h21 bl21 bh21 el21 => ?_
  refine mstepT_good bx2 by2 bl13 bh21 fun l22 h22 bl22 bh22 el22 => ?_
  refine mstepT_good bx2 by3 bh13 bh22 fun l23 h23 bl23 bh23 el23 => ?_
  refine mstepT_good bx3 by0 bl21 b0 fun l30 h30 bl30 bh30 el30 => ?_
  refine mstepT_good bx3 by1 bl22 bh30 fun l31 h31 bl31 bh31 el31 => ?_
  refine mstepT_good bx3 by2 bl23 bh31 fun l32 h32 bl32 bh32 el32 => ?_
  refine mstepT_good bx3 by3 bh23 bh32 fun l33 h33 bl33 bh33 el33 => ?_
  simp only [left1T, T.good]
  have hu : U64 [l00, l10, l20, l30, l31, l32, l33, h33] := u64_8 bl00 bl10 bl20 bl30 bl31 bl32 bl33 bh33
  refine ⟨hu, ?_⟩
  rw [show val [x0, x1, x2, x3] * val [y0, y1, y2, y3] = val [l00, l10, l20, l30, l31, l32, l33, h33] from ?_]
  have e : val [x0, x1, x2, x3] * val [y0, y1, y2, y3] = 1 * (x0 * y0) + 18446744073709551616 * (x0 * y1) + 340282366920938463463374607431768211456 * (x0 * y2) + 6277101735386680763835789423207666416102355444464034512896 * (x0 * y3) + 18446744073709551616 * (x1 * y0) + 340282366920938463463374607431768211456 * (x1 * y1) + 6277101735386680763835789423207666416102355444464034512896 * (x1 * y2) + 115792089237316195423570985008687907853269984665640564039457584007913129639936 * (x1 * y3) + 340282366920938463463374607431768211456 * (x2 * y0) + 6277101735386680763835789423207666416102355444464034512896 * (x2 * y1) + 115792089237316195423570985008687907853269984665640564039457584007913129639936 * (x2 * y2) + 2135987035920910082395021706169552114602704522356652769947041607822219725780640550022962086936576 * (x2 * y3) + 6277101735386680763835789423207666416102355444464034512896 * (x3 * y0) + 115792089237316195423570985008687907853269984665640564039457584007913129639936 * (x3 * y1) + 2135987035920910082395021706169552114602704522356652769947041607822219725780640550022962086936576 * (x3 * y2) + 39402006196394479212279040100143613805079739270465446667948293404245721771497210611414266254884915640806627990306816 * (x3 * y3) := mul44 x0 x1 x2 x3 y0 y1 y2 y3
  rw [e]; clear e hu
  simp only [val]
  generalize x0 * y0 = p00 at *
  generalize x0 * y1 = p01 at *
  generalize x0 * y2 = p02 at *
  generalize x0 * y3 = p03 at *
  generalize x1 * y0 = p10 at *
  generalize x1 * y1 = p11 at *
  generalize x1 * y2 = p12 at *
  generalize x1 * y3 = p13 at *
  generalize x2 * y0 = p20 at *
  generalize x2 * y1 = p21 at *
  generalize x2 * y2 = p22 at *
  generalize x2 * y3 = p23 at *
  generalize x3 * y0 = p30 at *
  generalize x3 * y1 = p31 at *
  generalize x3 * y2 = p32 at *
  generalize x3 * y3 = p33 at *
  omega
abbrev mulSC : List SV → T SV := ct l2 (fun | [.l a, .l b] => U64 a ∧ U64 b | _ => False) [i4] (fun | [.l a, .l b] => [.l (toL 4 ((val a * val b) % L25))] | _ => [])
theorem fn66S : FnOk Tryd.prog GS 58 (spG n2 mul64F) := fn66T.mono fun _ _ => trivial
theorem fn38 : FnOk Tryd.prog GS 27 mulSC := by
  refine fnOk_ct (cxS_ok (fns := [(58, spG n2 mul64F), (57, leftC)]) ⟨fn66S, fn64, trivial⟩) gS Tryd.func27 (c := body Tryd.f27) (by kernel_rfl) (enters_of Tryd.func27 (by kernel_rfl) (by kernel_rfl)) (bl := no) (fuel := 100) noBlS ?_
  intro xs hfit hp
  obtain ⟨a, b, rfl, ha, hb⟩ := fit_l2 hfit
  obtain ⟨x0, x1, x2, x3, rfl⟩ := len4 ha
  obtain ⟨y0, y1, y2, y3, rfl⟩ := len4 hb
  obtain ⟨u1, u2⟩ := hp
  have u1 := u64_4.1 u1
  have u2 := u64_4.1 u2
  refine ⟨fit_i4 _, ?_⟩
  rw [run38]
  exact prodM_good x0 x1 x2 x3 y0 y1 y2 y3 u1.1 u1.2.1 u1.2.2.1 u1.2.2.2 u2.1 u2.2.1 u2.2.2.1 u2.2.2.2
end Go.Proofs.YtkhooaaidmoogaaDoor
