import Derived.Test.YtdmphnfpcblfnaaDoorFs4
namespace Go.Proofs.YtdmphnfpcblfnaaDoor
open Go Go.Sx
set_option maxRecDepth 100000

abbrev foldC : List SV → T SV := ct [i8] (fun | [.l a] => U64 a | _ => False) [i4] (fun | [.l a] => [.l (toL 4 (val a % P25))] | _ => [])
def belT (a : List Int) (k : List Int → T SV) : T SV := .need (U64 a) (k (toL 4 (val a % P25)))
def s64T (x y c : Int) (k : Int → Int → T SV) : T SV := .need ((0 ≤ x ∧ x < 18446744073709551616) ∧ (0 ≤ y ∧ y < 18446744073709551616) ∧ 0 ≤ c ∧ c ≤ 1) (k ((x - y - c) % 18446744073709551616) (if x < y + c then 1 else 0))
abbrev l11 (x : List Int) : T SV := .ret (.ints .u64 4 x)

theorem run14 (a b : List Int) : runX (cxF [(51, plusC), (52, belowC)]) no 100 Tryd.f14 (body Tryd.f14) (can l2 [.l a, .l b]) gmF =
  (belT a fun a => belT b fun b => plusT a b fun s _ => belT s fun r => l11 r) := by kernel_rfl
abbrev addC : List SV → T SV := ct l2 (fun | [.l a, .l b] => U64 a ∧ U64 b | _ => False) [i4] (fun | [.l a, .l b] => [.l (toL 4 ((val a + val b) % P25))] | _ => [])
abbrev subC : List SV → T SV := ct l2 (fun | [.l a, .l b] => U64 a ∧ U64 b | _ => False) [i4] (fun | [.l a, .l b] => [.l (toL 4 ((val a - val b) % P25))] | _ => [])
abbrev mulC : List SV → T SV := ct l2 (fun | [.l a, .l b] => U64 a ∧ U64 b | _ => False) [i4] (fun | [.l a, .l b] => [.l (toL 4 ((val a * val b) % P25))] | _ => [])
abbrev negC : List SV → T SV := ct l1 (fun | [.l a] => U64 a | _ => False) [i4] (fun | [.l a] => [.l (toL 4 ((-val a) % P25))] | _ => [])
def add2T (a b : List Int) (k : List Int → T SV) : T SV := .need (U64 a ∧ U64 b) (k (toL 4 ((val a + val b) % P25)))
def mul2T (a b : List Int) (k : List Int → T SV) : T SV := .need (U64 a ∧ U64 b) (k (toL 4 ((val a * val b) % P25)))
def neg1T (a : List Int) (k : List Int → T SV) : T SV := .need (U64 a) (k (toL 4 ((-val a) % P25)))
def prod2T (a b : List Int) (k : List Int → T SV) : T SV := .need (U64 a ∧ U64 b) (k (toL 8 (val a * val b)))

theorem run16 (a b : List Int) : runX (cxF [(14, addC), (20, negC)]) no 100 Tryd.f16 (body Tryd.f16) (can l2 [.l a, .l b]) gmF =
  (neg1T b fun n => add2T a n fun r => l11 r) := by kernel_rfl
theorem run18 (a b : List Int) : runX (cxF [(54, foldC), (55, prodC)]) no 100 Tryd.f18 (body Tryd.f18) (can l2 [.l a, .l b]) gmF =
  (prod2T a b fun n => belT n fun r => l11 r) := by kernel_rfl
theorem run20 (a : List Int) : runX (cxF [(52, belowC)]) no 100 Tryd.f20 (body Tryd.f20) (can l1 [.l a]) gmF =
  (belT a fun a => s64T 18446744073709551597 (a.getD 0 0) 0 fun r0 c => s64T 18446744073709551615 (a.getD 1 0) c fun r1 c => s64T 18446744073709551615 (a.getD 2 0) c fun r2 c => s64T 9223372036854775807 (a.getD 3 0) c fun r3 _ => belT [r0, r1, r2, r3] fun r => l11 r) := by kernel_rfl
theorem modP (x : Int) : 0 ≤ x % P25 ∧ x % P25 < P25 := ⟨Int.emod_nonneg _ (by decide), Int.emod_lt_of_pos _ (by decide)⟩
theorem val_toL4 (n : Int) : val (toL 4 n) = n % 115792089237316195423570985008687907853269984665640564039457584007913129639936 := by
  rw [val_toL]; rw [show pw 4 = 115792089237316195423570985008687907853269984665640564039457584007913129639936 by decide]
theorem val_toLP (x : Int) : val (toL 4 (x % P25)) = x % P25 := by
  rw [val_toL4]
  have := modP x
  exact Int.emod_eq_of_lt this.1 (Int.lt_trans this.2 (by decide))
theorem fit_i4 (n : Int) : fit [i4] [.l (toL 4 n)] := by simp [fit, fit1, toL_length]

theorem fn14 : FnOk Tryd.prog GF 14 addC := by
  refine fnOk_ct (cxF_ok (fns := [(51, plusC), (52, belowC)]) ⟨fn51, fn52, trivial⟩) gF Tryd.func14 (c := body Tryd.f14) (by kernel_rfl) (enters_of Tryd.func14 (by kernel_rfl) (by kernel_rfl)) (bl := no) (fuel := 100) noBl ?_
  intro xs hfit hp
  obtain ⟨a, b, rfl, ha, hb⟩ := fit_l2 hfit
  obtain ⟨u1, u2⟩ := hp
  refine ⟨fit_i4 _, ?_⟩
  rw [run14]
  simp only [belT, plusT, T.good]
  refine ⟨u1, u2, ⟨toL_u64 _ _, toL_u64 _ _⟩, toL_u64 _ _, ?_⟩
  simp only [outV, can1, val_toLP]
  have h1 := modP (val a)
  have h2 := modP (val b)
  rw [val_toL4, Int.emod_eq_of_lt (a := val a % P25 + val b % P25) (by omega) (by simp only [P25] at *; omega), ← Int.add_emod]

theorem fn16 (h20 : FnOk Tryd.prog GF 20 negC) : FnOk Tryd.prog GF 16 subC := by
  refine fnOk_ct (cxF_ok (fns := [(14, addC), (20, negC)]) ⟨fn14, h20, trivial⟩) gF Tryd.func16 (c := body Tryd.f16) (by kernel_rfl) (enters_of Tryd.func16 (by kernel_rfl) (by kernel_rfl)) (bl := no) (fuel := 100) noBl ?_
  intro xs hfit hp
  obtain ⟨a, b, rfl, ha, hb⟩ := fit_l2 hfit
  obtain ⟨u1, u2⟩ := hp
  refine ⟨fit_i4 _, ?_⟩
  rw [run16]
  simp only [neg1T, add2T, T.good]
  refine ⟨u2, ⟨u1, toL_u64 _ _⟩, ?_⟩
  simp only [outV, can1, val_toLP]
  rw [Int.add_emod, Int.emod_emod_of_dvd _ (Int.dvd_refl P25), ← Int.add_emod, Int.sub_eq_add_neg]

theorem val_toL8 (n : Int) (h0 : 0 ≤ n) (h1 : n < 13407807929942597099574024998205846127479365820592393377723561443721764030073546976801874298166903427690031858186486050853753882811946569946433649006084096) : val (toL 8 n) = n := by
  rw [val_toL, show pw 8 = 13407807929942597099574024998205846127479365820592393377723561443721764030073546976801874298166903427690031858186486050853753882811946569946433649006084096 by decide]
  exact Int.emod_eq_of_lt h0 h1

theorem val4_range {a : List Int} (h : U64 a) (hl : a.length = 4) : 0 ≤ val a ∧ val a < 115792089237316195423570985008687907853269984665640564039457584007913129639936 := by
  have := val_range h
  rw [hl, show pw 4 = 115792089237316195423570985008687907853269984665640564039457584007913129639936 by decide] at this
  exact this

theorem fn18 : FnOk Tryd.prog GF 18 mulC := by
  refine fnOk_ct (cxF_ok (fns := [(54, foldC), (55, prodC)]) ⟨fn54, fn55, trivial⟩) gF Tryd.func18 (c := body Tryd.f18) (by kernel_rfl) (enters_of Tryd.func18 (by kernel_rfl) (by kernel_rfl)) (bl := no) (fuel := 100) noBl ?_
  intro xs hfit hp
  obtain ⟨a, b, rfl, ha, hb⟩ := fit_l2 hfit
  obtain ⟨u1, u2⟩ := hp
  have ra := val4_range u1 ha
  have rb := val4_range u2 hb
  have h0 : 0 ≤ val a * val b := Int.mul_nonneg ra.1 rb.1
  have h1 : val a * val b ≤ 115792089237316195423570985008687907853269984665640564039457584007913129639935 * 115792089237316195423570985008687907853269984665640564039457584007913129639935 := Int.mul_le_mul (by omega) (by omega) rb.1 (by omega)
  refine ⟨fit_i4 _, ?_⟩
  rw [run18]
  simp only [prod2T, belT, T.good]
  refine ⟨⟨u1, u2⟩, toL_u64 _ _, ?_⟩
  rw [val_toL8 _ h0 (by omega)]
  rfl

theorem fn20 : FnOk Tryd.prog GF 20 negC := by
  refine fnOk_ct (cxF_ok (fns := [(52, belowC)]) ⟨fn52, trivial⟩) gF Tryd.func20 (c := body Tryd.f20) (by kernel_rfl) (enters_of Tryd.func20 (by kernel_rfl) (by kernel_rfl)) (bl := no) (fuel := 100) noBl ?_
  intro xs hfit hp
  obtain ⟨a, rfl, ha⟩ := fit_l1 hfit
  have u1 : U64 a := hp
  obtain ⟨a0, a1, a2, a3, e⟩ := len4 (toL_length 4 (val a % P25))
  have ua : U64 [a0, a1, a2, a3] := e ▸ toL_u64 4 (val a % P25)
  have uq := u64_4.1 ua
  have hv := val_toLP (val a)
  rw [e] at hv
  have e2 := subL_eq 4 [18446744073709551597, 18446744073709551615, 18446744073709551615, 9223372036854775807] [a0, a1, a2, a3] 0 rfl rfl (u64_4.2 (by decide)) ua (by omega) (by omega)
  rw [Int.sub_zero, Int.add_zero, hv, show val [18446744073709551597, 18446744073709551615, 18446744073709551615, 9223372036854775807] = P25 by decide] at e2
  simp only [subL] at e2
  have hm := modP (val a)
  refine ⟨fit_i4 _, ?_⟩
  rw [run20]
  simp only [belT, s64T, T.good]
  rw [e]
  simp only [List.getD_cons_succ, List.getD_cons_zero]
  refine ⟨u1, ⟨by decide, uq.1, by decide⟩, ⟨by decide, uq.2.1, bit _⟩, ⟨by decide, uq.2.2.1, bit _⟩, ⟨by decide, uq.2.2.2, bit _⟩, ?_⟩
  rw [(Prod.mk.inj e2).1]
  refine ⟨toL_u64 _ _, ?_⟩
  rw [val_toL4, Int.emod_eq_of_lt (a := P25 - val a % P25) (by omega) (by simp only [P25] at *; omega)]
  simp only [outV, can1]
  have : (P25 - val a % P25) % P25 = (-val a) % P25 := by
    rw [show P25 - val a % P25 = -val a + P25 * (1 + val a / P25) by simp only [P25]; omega, Int.add_mul_emod_self_left]
  rw [this]

abbrev smallC : List SV → T SV := ct [u6] (fun _ => True) [i4] (fun | [.n n] => [.l [n, 0, 0, 0]] | _ => [])
abbrev sameC : List SV → T SV := ct l2 (fun | [.l a, .l b] => U64 a ∧ U64 b | _ => False) [.bool] (fun | [.l a, .l b] => [.b (decide (val a % P25 = val b % P25))] | _ => [])
abbrev oddC : List SV → T SV := ct l1 (fun | [.l a] => U64 a | _ => False) [.bool] (fun | [.l a] => [.b (decide (val a % P25 % 2 = 1))] | _ => [])

theorem run26 (n : Int) : runX (cxF []) no 100 Tryd.f26 (body Tryd.f26) (can [u6] [.n n]) gmF = .ret (.ints .u64 4 [n, 0, 0, 0]) := by kernel_rfl
theorem run27 (a b : List Int) : runX (cxF [(52, belowC)]) no 100 Tryd.f27 (body Tryd.f27) (can l2 [.l a, .l b]) gmF = (belT a fun a => belT b fun b => .ret (.bool (a == b))) := by kernel_rfl
theorem run29 (a : List Int) : runX (cxF [(52, belowC)]) no 100 Tryd.f29 (body Tryd.f29) (can l1 [.l a]) gmF = (belT a fun a => .ret (.bool (bitsI .and .u64 (a.getD 0 0) 1 == 1))) := by kernel_rfl

theorem fit_n1 {k : IntKind} {l : List AV} (h : fit [.num k] l) : ∃ x, l = [.n x] := by
  match l, h with
  | [a], h => cases a <;> first | exact ⟨_, rfl⟩ | exact h.1.elim
  | [], h => exact h.elim
  | _ :: _ :: _, h => exact h.2.elim

theorem fn26 : FnOk Tryd.prog GF 26 smallC := by
  refine fnOk_ct (cxF_ok (fns := []) trivial) gF Tryd.func26 (c := body Tryd.f26) (by kernel_rfl) (enters_of Tryd.func26 (by kernel_rfl) (by kernel_rfl)) (bl := no) (fuel := 100) noBl ?_
  intro xs hfit hp
  obtain ⟨n, rfl⟩ := fit_n1 hfit
  refine ⟨by simp [fit, fit1], ?_⟩
  rw [run26]
  rfl

theorem toLP_inj (x y : Int) : (toL 4 (x % P25) == toL 4 (y % P25)) = decide (x % P25 = y % P25) := by
  by_cases h : x % P25 = y % P25
  · rw [h]; simp
  · rw [decide_eq_false h]
    refine beq_eq_false_iff_ne.2 fun hc => h ?_
    rw [← val_toLP x, hc, val_toLP]

theorem fn27 : FnOk Tryd.prog GF 27 sameC := by
  refine fnOk_ct (cxF_ok (fns := [(52, belowC)]) ⟨fn52, trivial⟩) gF Tryd.func27 (c := body Tryd.f27) (by kernel_rfl) (enters_of Tryd.func27 (by kernel_rfl) (by kernel_rfl)) (bl := no) (fuel := 100) noBl ?_
  intro xs hfit hp
  obtain ⟨a, b, rfl, ha, hb⟩ := fit_l2 hfit
  obtain ⟨u1, u2⟩ := hp
  refine ⟨by simp [fit, fit1], ?_⟩
  rw [run27]
  simp only [belT, T.good]
  refine ⟨u1, u2, ?_⟩
  rw [toLP_inj]
  rfl

theorem and1 (x : Int) (h : 0 ≤ x ∧ x < 18446744073709551616) : bitsI .and .u64 x 1 = x % 2 := by
  have e : bitsI .and .u64 x 1 = ((x.toNat &&& 1 : Nat) : Int) := u64_and x 1 h.1 h.2 (by decide) (by decide)
  rw [e, nat_mask1]
  omega

theorem fn29 : FnOk Tryd.prog GF 29 oddC := by
  refine fnOk_ct (cxF_ok (fns := [(52, belowC)]) ⟨fn52, trivial⟩) gF Tryd.func29 (c := body Tryd.f29) (by kernel_rfl) (enters_of Tryd.func29 (by kernel_rfl) (by kernel_rfl)) (bl := no) (fuel := 100) noBl ?_
  intro xs hfit hp
  obtain ⟨a, rfl, ha⟩ := fit_l1 hfit
  have u1 : U64 a := hp
  refine ⟨by simp [fit, fit1], ?_⟩
  rw [run29]
  simp only [belT, T.good]
  refine ⟨u1, ?_⟩
  simp only [toL, List.getD_cons_zero, outV, can1]
  rw [and1 _ (by omega)]
  congr 1
  rw [show val a % P25 % 18446744073709551616 % 2 = val a % P25 % 2 by omega]
  by_cases h : val a % P25 % 2 = 1
  · rw [h]; rfl
  · rw [decide_eq_false h]; exact beq_eq_false_iff_ne.2 h
end Go.Proofs.YtdmphnfpcblfnaaDoor
