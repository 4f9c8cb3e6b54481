import Derived.Test.YtdmphnfpcblfnaaDoorFs1
import Derived.Test.YtdmphnfpcblfnaaDoorSxCt
import Derived.KernelRfl
namespace Go.Proofs.YtdmphnfpcblfnaaDoor
open Go Go.Sx
set_option maxRecDepth 100000

theorem run74 (h l a b : Int) : runX (cxF [(66, spG n2 mul64F)]) no 100 Tryd.f74 (body Tryd.f74) (can n4 [.n h, .n l, .n a, .n b]) gmF = T.need (((0 : Int) ≤ h ∧ h < (18446744073709551616 : Int)) ∧ (0 : Int) ≤ l ∧ l < (18446744073709551616 : Int)) (T.need ((0 : Int) ≤ h * l % (18446744073709551616 : Int) ∧ (0 : Int) ≤ a ∧ (0 : Int) ≤ (0 : Int) ∧ (0 : Int) ≤ (1 : Int)) (T.need ((0 : Int) ≤ (h * l % (18446744073709551616 : Int) + a + (0 : Int)) % (18446744073709551616 : Int) ∧ (0 : Int) ≤ b ∧ (0 : Int) ≤ (0 : Int) ∧ (0 : Int) ≤ (1 : Int)) (T.ret (SV.tup [SV.int IntKind.u64 (((h * l % (18446744073709551616 : Int) + a + (0 : Int)) % (18446744073709551616 : Int) + b + (0 : Int)) % (18446744073709551616 : Int)), SV.int IntKind.u64 (IntKind.u64.wrap (IntKind.u64.wrap (h * l / (18446744073709551616 : Int) + (h * l % (18446744073709551616 : Int) + a + (0 : Int)) / (18446744073709551616 : Int)) + ((h * l % (18446744073709551616 : Int) + a + (0 : Int)) % (18446744073709551616 : Int) + b + (0 : Int)) / (18446744073709551616 : Int)))])))) := by kernel_rfl
theorem run51 (x0 x1 x2 x3 y0 y1 y2 y3 : Int) : runX (cxF []) no 100 Tryd.f51 (body Tryd.f51) (can l2 [.l [x0,x1,x2,x3], .l [y0,y1,y2,y3]]) gmF = T.need ((0 : Int) ≤ x0 ∧ (0 : Int) ≤ y0 ∧ (0 : Int) ≤ (0 : Int) ∧ (0 : Int) ≤ (1 : Int)) (T.need ((0 : Int) ≤ x1 ∧ (0 : Int) ≤ y1 ∧ (0 : Int) ≤ (x0 + y0 + (0 : Int)) / (18446744073709551616 : Int) ∧ (x0 + y0 + (0 : Int)) / (18446744073709551616 : Int) ≤ (1 : Int)) (T.need ((0 : Int) ≤ x2 ∧ (0 : Int) ≤ y2 ∧ (0 : Int) ≤ (x1 + y1 + (x0 + y0 + (0 : Int)) / (18446744073709551616 : Int)) / (18446744073709551616 : Int) ∧ (x1 + y1 + (x0 + y0 + (0 : Int)) / (18446744073709551616 : Int)) / (18446744073709551616 : Int) ≤ (1 : Int)) (T.need ((0 : Int) ≤ x3 ∧ (0 : Int) ≤ y3 ∧ (0 : Int) ≤ (x2 + y2 + (x1 + y1 + (x0 + y0 + (0 : Int)) / (18446744073709551616 : Int)) / (18446744073709551616 : Int)) / (18446744073709551616 : Int) ∧ (x2 + y2 + (x1 + y1 + (x0 + y0 + (0 : Int)) / (18446744073709551616 : Int)) / (18446744073709551616 : Int)) / (18446744073709551616 : Int) ≤ (1 : Int)) (T.ret (SV.tup [SV.ints IntKind.u64 (4 : Nat) [(x0 + y0 + (0 : Int)) % (18446744073709551616 : Int), (x1 + y1 + (x0 + y0 + (0 : Int)) / (18446744073709551616 : Int)) % (18446744073709551616 : Int), (x2 + y2 + (x1 + y1 + (x0 + y0 + (0 : Int)) / (18446744073709551616 : Int)) / (18446744073709551616 : Int)) % (18446744073709551616 : Int), (x3 + y3 + (x2 + y2 + (x1 + y1 + (x0 + y0 + (0 : Int)) / (18446744073709551616 : Int)) / (18446744073709551616 : Int)) / (18446744073709551616 : Int)) % (18446744073709551616 : Int)], SV.int IntKind.u64 ((x3 + y3 + (x2 + y2 + (x1 + y1 + (x0 + y0 + (0 : Int)) / (18446744073709551616 : Int)) / (18446744073709551616 : Int)) / (18446744073709551616 : Int)) / (18446744073709551616 : Int))]))))) := by kernel_rfl
theorem run68 (x0 x1 x2 x3 y0 y1 y2 y3 : Int) : runX (cxF []) no 100 Tryd.f68 (body Tryd.f68) (can l2 [.l [x0,x1,x2,x3], .l [y0,y1,y2,y3]]) gmF = T.need (((0 : Int) ≤ x0 ∧ x0 < (18446744073709551616 : Int)) ∧ ((0 : Int) ≤ y0 ∧ y0 < (18446744073709551616 : Int)) ∧ (0 : Int) ≤ (0 : Int) ∧ (0 : Int) ≤ (1 : Int)) (T.need (((0 : Int) ≤ x1 ∧ x1 < (18446744073709551616 : Int)) ∧ ((0 : Int) ≤ y1 ∧ y1 < (18446744073709551616 : Int)) ∧ ((0 : Int) ≤ if x0 < y0 + (0 : Int) then (1 : Int) else (0 : Int)) ∧ (if x0 < y0 + (0 : Int) then (1 : Int) else (0 : Int)) ≤ (1 : Int)) (T.need (((0 : Int) ≤ x2 ∧ x2 < (18446744073709551616 : Int)) ∧ ((0 : Int) ≤ y2 ∧ y2 < (18446744073709551616 : Int)) ∧ ((0 : Int) ≤ if x1 < y1 + if x0 < y0 + (0 : Int) then (1 : Int) else (0 : Int) then (1 : Int) else (0 : Int)) ∧ (if x1 < y1 + if x0 < y0 + (0 : Int) then (1 : Int) else (0 : Int) then (1 : Int) else (0 : Int)) ≤ (1 : Int)) (T.need (((0 : Int) ≤ x3 ∧ x3 < (18446744073709551616 : Int)) ∧ ((0 : Int) ≤ y3 ∧ y3 < (18446744073709551616 : Int)) ∧ ((0 : Int) ≤ if x2 < y2 + if x1 < y1 + if x0 < y0 + (0 : Int) then (1 : Int) else (0 : Int) then (1 : Int) else (0 : Int) then (1 : Int) else (0 : Int)) ∧ (if x2 < y2 + if x1 < y1 + if x0 < y0 + (0 : Int) then (1 : Int) else (0 : Int) then (1 : Int) else (0 : Int) then (1 : Int) else (0 : Int)) ≤ (1 : Int)) (T.ret (SV.tup [SV.ints IntKind.u64 (4 : Nat) [(x0 - y0 - (0 : Int)) % (18446744073709551616 : Int), (x1 - y1 - if x0 < y0 + (0 : Int) then (1 : Int) else (0 : Int)) % (18446744073709551616 : Int), (x2 - y2 - if x1 < y1 + if x0 < y0 + (0 : Int) then (1 : Int) else (0 : Int) then (1 : Int) else (0 : Int)) % (18446744073709551616 : Int), (x3 - y3 - if x2 < y2 + if x1 < y1 + if x0 < y0 + (0 : Int) then (1 : Int) else (0 : Int) then (1 : Int) else (0 : Int) then (1 : Int) else (0 : Int)) % (18446744073709551616 : Int)], SV.int IntKind.u64 (if x3 < y3 + if x2 < y2 + if x1 < y1 + if x0 < y0 + (0 : Int) then (1 : Int) else (0 : Int) then (1 : Int) else (0 : Int) then (1 : Int) else (0 : Int) then (1 : Int) else (0 : Int))]))))) := by kernel_rfl

theorem gF : GlobIs GF gmF := gmF_is
abbrev i4 : AK := .ints .u64 4
abbrev u6 : AK := .num .u64

abbrev stepC : List SV → T SV := ct n4 (fun | [.n a, .n b, .n c, .n d] => U64 [a, b, c, d] | _ => False) [u6, u6] (fun | [.n a, .n b, .n c, .n d] => [.n ((a * b + c + d) % 18446744073709551616), .n ((a * b + c + d) / 18446744073709551616)] | _ => [])
abbrev plusC : List SV → T SV := ct l2 (fun | [.l a, .l b] => U64 a ∧ U64 b | _ => False) [i4, u6] (fun | [.l a, .l b] => [.l (toL 4 (val a + val b)), .n ((val a + val b) / pw 4)] | _ => [])
abbrev minusC : List SV → T SV := ct l2 (fun | [.l a, .l b] => U64 a ∧ U64 b | _ => False) [i4, u6] (fun | [.l a, .l b] => [.l (toL 4 (val a - val b)), .n (if val a < val b then 1 else 0)] | _ => [])

theorem mulDivMod (a b c d : Int) (ha : 0 ≤ a ∧ a < 18446744073709551616) (hb : 0 ≤ b ∧ b < 18446744073709551616) (hc : 0 ≤ c ∧ c < 18446744073709551616) (hd : 0 ≤ d ∧ d < 18446744073709551616) :
    0 ≤ a * b ∧ (a * b + c + d) / 18446744073709551616 < 18446744073709551616 := by
  have h1 : a * b ≤ 18446744073709551615 * 18446744073709551615 := Int.mul_le_mul (by omega) (by omega) (by omega) (by omega)
  have h0 : 0 ≤ a * b := Int.mul_nonneg ha.1 hb.1
  generalize a * b = m at *
  omega

theorem fn74 : FnOk Tryd.prog GF 74 stepC := by
  refine fnOk_ct (cxF_ok (fns := [(66, spG n2 mul64F)]) ⟨fn66, trivial⟩) gF Tryd.func74 (c := body Tryd.f74) (by kernel_rfl) (enters_of Tryd.func74 (by kernel_rfl) (by kernel_rfl)) (bl := no) (fuel := 100) noBl ?_
  intro xs hfit hp
  obtain ⟨a, b, c, d, rfl⟩ := fit_n4 hfit
  have hq := u64_4.1 hp
  obtain ⟨ha, hb, hc, hd⟩ := hq
  have hm := mulDivMod a b c d ha hb hc hd
  refine ⟨by simp [fit, fit1], ?_⟩
  rw [run74]
  simp only [T.good]
  generalize a * b = m at *
  refine ⟨⟨ha, hb⟩, by omega, by omega, ?_⟩
  simp only [outV, can, can1, wrap_u64]
  congr 3
  · omega
  · congr 2
    omega

theorem fn51 : FnOk Tryd.prog GF 51 plusC := by
  refine fnOk_ct (cxF_ok (fns := []) trivial) gF Tryd.func51 (c := body Tryd.f51) (by kernel_rfl) (enters_of Tryd.func51 (by kernel_rfl) (by kernel_rfl)) (bl := no) (fuel := 100) noBl ?_
  intro xs hfit hp
  obtain ⟨a, b, rfl, ha, hb⟩ := fit_l2 hfit
  obtain ⟨x0, x1, x2, x3, rfl⟩ := len4 ha
  obtain ⟨y0, y1, y2, y3, rfl⟩ := len4 hb
  obtain ⟨u1, u2⟩ := hp
  have hq := u64_4.1 u1
  obtain ⟨a0, a1, a2, a3⟩ := hq
  have hq := u64_4.1 u2
  obtain ⟨b0, b1, b2, b3⟩ := hq
  have e := addL_eq 4 [x0, x1, x2, x3] [y0, y1, y2, y3] 0 rfl rfl
  rw [Int.add_zero] at e
  simp only [addL] at e
  refine ⟨by simp [fit, fit1, toL_length], ?_⟩
  rw [run51]
  simp only [T.good]
  refine ⟨by omega, by omega, by omega, by omega, ?_⟩
  simp only [outV, can, can1, ← (Prod.mk.inj e).1, ← (Prod.mk.inj e).2]

theorem bit (p : Prop) [Decidable p] : (0 : Int) ≤ (if p then 1 else 0) ∧ (if p then (1 : Int) else 0) ≤ 1 := by split <;> omega

theorem fn68 : FnOk Tryd.prog GF 68 minusC := by
  refine fnOk_ct (cxF_ok (fns := []) trivial) gF Tryd.func68 (c := body Tryd.f68) (by kernel_rfl) (enters_of Tryd.func68 (by kernel_rfl) (by kernel_rfl)) (bl := no) (fuel := 100) noBl ?_
  intro xs hfit hp
  obtain ⟨a, b, rfl, ha, hb⟩ := fit_l2 hfit
  obtain ⟨x0, x1, x2, x3, rfl⟩ := len4 ha
  obtain ⟨y0, y1, y2, y3, rfl⟩ := len4 hb
  obtain ⟨u1, u2⟩ := hp
  have hq := u64_4.1 u1
  obtain ⟨a0, a1, a2, a3⟩ := hq
  have hq := u64_4.1 u2
  obtain ⟨b0, b1, b2, b3⟩ := hq
  have e := subL_eq 4 [x0, x1, x2, x3] [y0, y1, y2, y3] 0 rfl rfl u1 u2 (by omega) (by omega)
  rw [Int.sub_zero, Int.add_zero] at e
  simp only [subL] at e
  refine ⟨by simp [fit, fit1, toL_length], ?_⟩
  rw [run68]
  simp only [T.good]
  refine ⟨⟨a0, b0, by omega⟩, ⟨a1, b1, bit _⟩, ⟨a2, b2, bit _⟩, ⟨a3, b3, bit _⟩, ?_⟩
  simp only [outV, can, can1, ← (Prod.mk.inj e).1, ← (Prod.mk.inj e).2]
end Go.Proofs.YtdmphnfpcblfnaaDoor
