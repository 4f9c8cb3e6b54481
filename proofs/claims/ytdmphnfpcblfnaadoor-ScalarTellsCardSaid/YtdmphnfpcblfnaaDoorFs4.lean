import Derived.Test.YtdmphnfpcblfnaaDoorFs3
namespace Go.Proofs.YtdmphnfpcblfnaaDoor
open Go Go.Sx
set_option maxRecDepth 100000

abbrev i8 : AK := .ints .u64 8
abbrev prodC : List SV → T SV := ct l2 (fun | [.l a, .l b] => U64 a ∧ U64 b | _ => False) [i8] (fun | [.l a, .l b] => [.l (toL 8 (val a * val b))] | _ => [])

theorem fn55 : FnOk Tryd.prog GF 55 prodC := by
  refine fnOk_ct (cxF_ok (fns := [(74, stepC)]) ⟨fn74, trivial⟩) gF Tryd.func55 (c := body Tryd.f55) (by kernel_rfl) (enters_of Tryd.func55 (by kernel_rfl) (by kernel_rfl)) (bl := no) (fuel := 100) noBl ?_
  intro xs hfit hp
  obtain ⟨a, b, rfl, ha, hb⟩ := fit_l2 hfit
  obtain ⟨x0, x1, x2, x3, rfl⟩ := len4 ha
  obtain ⟨y0, y1, y2, y3, rfl⟩ := len4 hb
  obtain ⟨u1, u2⟩ := hp
  have u1 := u64_4.1 u1
  have u2 := u64_4.1 u2
  refine ⟨by simp [fit, fit1, toL_length], ?_⟩
  rw [run55]
  exact prodT_good x0 x1 x2 x3 y0 y1 y2 y3 u1.1 u1.2.1 u1.2.2.1 u1.2.2.2 u2.1 u2.2.1 u2.2.2.1 u2.2.2.2

def belowT (x0 x1 x2 x3 : Int) : T SV :=
  plusT [x0, x1, x2, bitsI .and .u64 x3 9223372036854775807] [IntKind.u64.wrap (19 * shrI .u64 x3 63), 0, 0, 0] fun a _ =>
  plusT a [19, 0, 0, 0] fun more _ =>
  .ite (shrI .u64 (more.getD 3 0) 63 == 0) (.ret (.ints .u64 4 a)) (.ret (.ints .u64 4 (more.set 3 (bitsI .and .u64 (more.getD 3 0) 9223372036854775807))))

theorem run52 (x0 x1 x2 x3 : Int) : runX (cxF [(51, plusC)]) no 100 Tryd.f52 (body Tryd.f52) (can l1 [.l [x0, x1, x2, x3]]) gmF = belowT x0 x1 x2 x3 := by kernel_rfl

def foldT (n0 n1 n2 n3 n4 n5 n6 n7 : Int) : T SV :=
  stepT n4 38 n0 0 fun a0 c =>
  stepT n5 38 n1 c fun a1 c =>
  stepT n6 38 n2 c fun a2 c =>
  stepT n7 38 n3 c fun a3 c =>
  plusT [a0, a1, a2, a3] [IntKind.u64.wrap (38 * c), 0, 0, 0] fun a c =>
  plusT a [IntKind.u64.wrap (38 * c), 0, 0, 0] fun a _ =>
  .need (U64 a) (.ret (.ints .u64 4 (toL 4 (val a % 57896044618658097711785492504343953926634992332820282019728792003956564819949))))

abbrev P25 : Int := 57896044618658097711785492504343953926634992332820282019728792003956564819949
abbrev belowC : List SV → T SV := ct l1 (fun | [.l a] => U64 a | _ => False) [i4] (fun | [.l a] => [.l (toL 4 (val a % P25))] | _ => [])
theorem run54 (n0 n1 n2 n3 n4 n5 n6 n7 : Int) : runX (cxF [(51, plusC), (74, stepC), (52, belowC)]) no 100 Tryd.f54 (body Tryd.f54) (can [i8] [.l [n0, n1, n2, n3, n4, n5, n6, n7]]) gmF = foldT n0 n1 n2 n3 n4 n5 n6 n7 := by kernel_rfl

theorem pw4len (a b c d : Int) : pw [a, b, c, d].length = 115792089237316195423570985008687907853269984665640564039457584007913129639936 := by
  simp only [List.length_cons, List.length_nil, pw]; decide

theorem plusT_good {a b : List Int} {k : List Int → Int → T SV} {Q : SV → Prop} (ua : U64 a) (ub : U64 b)
    (h : ∀ r0 r1 r2 r3 c, (0 ≤ r0 ∧ r0 < 18446744073709551616) → (0 ≤ r1 ∧ r1 < 18446744073709551616) → (0 ≤ r2 ∧ r2 < 18446744073709551616) → (0 ≤ r3 ∧ r3 < 18446744073709551616) →
      val [r0, r1, r2, r3] + 115792089237316195423570985008687907853269984665640564039457584007913129639936 * c = val a + val b → (k [r0, r1, r2, r3] c).good Q) : (plusT a b k).good Q := by
  refine ⟨⟨ua, ub⟩, ?_⟩
  obtain ⟨r0, r1, r2, r3, e⟩ := len4 (toL_length 4 (val a + val b))
  have hu := toL_u64 4 (val a + val b)
  have hv := val_toL 4 (val a + val b)
  rw [e] at hu hv
  have hq := u64_4.1 hu
  have hp : pw 4 = 115792089237316195423570985008687907853269984665640564039457584007913129639936 := by decide
  have := h r0 r1 r2 r3 ((val a + val b) / pw 4) hq.1 hq.2.1 hq.2.2.1 hq.2.2.2 (by rw [hv, hp]; omega)
  rw [← e] at this
  exact this

theorem and63 (x : Int) (h : 0 ≤ x ∧ x < 18446744073709551616) : bitsI .and .u64 x 9223372036854775807 = x % 9223372036854775808 := by
  have e : bitsI .and .u64 x 9223372036854775807 = ((x.toNat &&& 9223372036854775807 : Nat) : Int) := u64_and x 9223372036854775807 h.1 h.2 (by decide) (by decide)
  rw [e, show (9223372036854775807 : Nat) = 2 ^ 63 - 1 from rfl, Nat.and_two_pow_sub_one_eq_mod]
  omega
theorem shr63 (x : Int) : shrI .u64 x 63 = x / 9223372036854775808 := shrI_u64 x 63 (by omega)

theorem toL4_of {r0 r1 r2 r3 n : Int} (h0 : 0 ≤ r0 ∧ r0 < 18446744073709551616) (h1 : 0 ≤ r1 ∧ r1 < 18446744073709551616) (h2 : 0 ≤ r2 ∧ r2 < 18446744073709551616) (h3 : 0 ≤ r3 ∧ r3 < 18446744073709551616) (h : val [r0, r1, r2, r3] = n) : [r0, r1, r2, r3] = toL 4 n := by
  subst h
  exact (toL_val (u64_4.2 ⟨h0, h1, h2, h3⟩)).symm

theorem belowT_good (x0 x1 x2 x3 : Int) (h0 : 0 ≤ x0 ∧ x0 < 18446744073709551616) (h1 : 0 ≤ x1 ∧ x1 < 18446744073709551616) (h2 : 0 ≤ x2 ∧ x2 < 18446744073709551616) (h3 : 0 ≤ x3 ∧ x3 < 18446744073709551616) :
    (belowT x0 x1 x2 x3).good fun u => u = .ints .u64 4 (toL 4 (val [x0, x1, x2, x3] % P25)) := by
  unfold belowT
  rw [and63 x3 h3, shr63, wrap_u64]
  have hh : x3 / 9223372036854775808 = 0 ∨ x3 / 9223372036854775808 = 1 := by omega
  have hx3 : x3 % 9223372036854775808 = x3 - 9223372036854775808 * (x3 / 9223372036854775808) := by omega
  have hm3 : 0 ≤ x3 % 9223372036854775808 ∧ x3 % 9223372036854775808 < 9223372036854775808 := by omega
  rw [show (19 * (x3 / 9223372036854775808)) % 18446744073709551616 = 19 * (x3 / 9223372036854775808) by omega]
  generalize hH : x3 / 9223372036854775808 = H at *
  generalize hT : x3 % 9223372036854775808 = t at *
  have hN : val [x0, x1, x2, x3] = val [x0, x1, x2, t] + 57896044618658097711785492504343953926634992332820282019728792003956564819968 * H := by simp only [val]; omega
  have hL : 0 ≤ val [x0, x1, x2, t] ∧ val [x0, x1, x2, t] < 57896044618658097711785492504343953926634992332820282019728792003956564819968 := by simp only [val]; omega
  refine plusT_good (u64_4.2 ⟨h0, h1, h2, by omega⟩) (u64_4.2 ⟨by omega, by omega, by omega, by omega⟩) fun r0 r1 r2 r3 c b0 b1 b2 b3 e => ?_
  refine plusT_good (u64_4.2 ⟨b0, b1, b2, b3⟩) (u64_4.2 ⟨by omega, by omega, by omega, by omega⟩) fun m0 m1 m2 m3 c' d0 d1 d2 d3 e' => ?_
  simp only [T.good, List.getD_cons_succ, List.getD_cons_zero, List.set, and63 m3 d3, shr63, beq_iff_eq, beq_eq_false_iff_ne, ne_eq]
  have e1 : val [19 * H, 0, 0, 0] = 19 * H := by simp only [val]; omega
  have e2 : val [19, 0, 0, 0] = 19 := rfl
  have vr := val_range (u64_4.2 ⟨b0, b1, b2, b3⟩)
  have vm := val_range (u64_4.2 ⟨d0, d1, d2, d3⟩)
  have hp : pw [r0, r1, r2, r3].length = 115792089237316195423570985008687907853269984665640564039457584007913129639936 := pw4len _ _ _ _
  have hp' : pw [m0, m1, m2, m3].length = 115792089237316195423570985008687907853269984665640564039457584007913129639936 := pw4len _ _ _ _
  rw [hp] at vr
  rw [hp'] at vm
  rw [e1] at e
  rw [e2] at e'
  have tm : val [m0, m1, m2, m3] = val [m0, m1, m2, m3 % 9223372036854775808] + 57896044618658097711785492504343953926634992332820282019728792003956564819968 * (m3 / 9223372036854775808) := by simp only [val]; omega
  have tl : 0 ≤ val [m0, m1, m2, m3 % 9223372036854775808] ∧ val [m0, m1, m2, m3 % 9223372036854775808] < 57896044618658097711785492504343953926634992332820282019728792003956564819968 := by simp only [val]; omega
  have hm : m3 / 9223372036854775808 = 0 ∨ m3 / 9223372036854775808 = 1 := by omega
  have hm4 : 0 ≤ m3 % 9223372036854775808 ∧ m3 % 9223372036854775808 < 18446744073709551616 := by omega
  rw [hN]
  generalize hV : val [x0, x1, x2, t] = V at *
  refine ⟨fun hb => ?_, fun hb => ?_⟩
  · have := toL4_of (n := (V + 57896044618658097711785492504343953926634992332820282019728792003956564819968 * H) % P25) b0 b1 b2 b3 (by
      generalize val [r0, r1, r2, r3] = R at *
      generalize val [m0, m1, m2, m3] = W at *
      generalize val [m0, m1, m2, m3 % 9223372036854775808] = W' at *
      generalize m3 / 9223372036854775808 = g at *
      clear hV hT hH hx3 hm3 hm4
      simp only [P25]
      rcases hh with rfl | rfl <;> omega)
    rw [this]
  · have := toL4_of (n := (V + 57896044618658097711785492504343953926634992332820282019728792003956564819968 * H) % P25) d0 d1 d2 hm4 (by
      generalize val [r0, r1, r2, r3] = R at *
      generalize val [m0, m1, m2, m3] = W at *
      generalize val [m0, m1, m2, m3 % 9223372036854775808] = W' at *
      generalize m3 / 9223372036854775808 = g at *
      clear hV hT hH hx3 hm3 hm4
      simp only [P25]
      rcases hh with rfl | rfl <;> omega)
    rw [this]

theorem fn52 : FnOk Tryd.prog GF 52 belowC := by
  refine fnOk_ct (cxF_ok (fns := [(51, plusC)]) ⟨fn51, trivial⟩) gF Tryd.func52 (c := body Tryd.f52) (by kernel_rfl) (enters_of Tryd.func52 (by kernel_rfl) (by kernel_rfl)) (bl := no) (fuel := 100) noBl ?_
  intro xs hfit hp
  obtain ⟨a, rfl, ha⟩ := fit_l1 hfit
  obtain ⟨x0, x1, x2, x3, rfl⟩ := len4 ha
  have u1 := u64_4.1 hp
  refine ⟨by simp [fit, fit1, toL_length], ?_⟩
  rw [run52]
  exact belowT_good x0 x1 x2 x3 u1.1 u1.2.1 u1.2.2.1 u1.2.2.2

theorem foldT_good (n0 n1 n2 n3 n4 n5 n6 n7 : Int) (h0 : 0 ≤ n0 ∧ n0 < 18446744073709551616) (h1 : 0 ≤ n1 ∧ n1 < 18446744073709551616) (h2 : 0 ≤ n2 ∧ n2 < 18446744073709551616) (h3 : 0 ≤ n3 ∧ n3 < 18446744073709551616) (h4 : 0 ≤ n4 ∧ n4 < 18446744073709551616) (h5 : 0 ≤ n5 ∧ n5 < 18446744073709551616) (h6 : 0 ≤ n6 ∧ n6 < 18446744073709551616) (h7 : 0 ≤ n7 ∧ n7 < 18446744073709551616) :
    (foldT n0 n1 n2 n3 n4 n5 n6 n7).good fun u => u = .ints .u64 4 (toL 4 (val [n0, n1, n2, n3, n4, n5, n6, n7] % P25)) := by
  unfold foldT
  refine stepT_good h4 (by omega) h0 (by omega) fun a0 c0 b0 k0 e0 => ?_
  refine stepT_good h5 (by omega) h1 k0 fun a1 c1 b1 k1 e1 => ?_
  refine stepT_good h6 (by omega) h2 k1 fun a2 c2 b2 k2 e2 => ?_
  refine stepT_good h7 (by omega) h3 k2 fun a3 c3 b3 k3 e3 => ?_
  have va := val_range (u64_4.2 ⟨b0, b1, b2, b3⟩)
  have hp : pw [a0, a1, a2, a3].length = 115792089237316195423570985008687907853269984665640564039457584007913129639936 := pw4len _ _ _ _
  rw [hp] at va
  have hN : val [n0, n1, n2, n3, n4, n5, n6, n7] = val [n0, n1, n2, n3] + 115792089237316195423570985008687907853269984665640564039457584007913129639936 * val [n4, n5, n6, n7] := by simp only [val]; omega
  have ea : val [a0, a1, a2, a3] + 115792089237316195423570985008687907853269984665640564039457584007913129639936 * c3 = val [n0, n1, n2, n3] + 38 * val [n4, n5, n6, n7] := by simp only [val]; omega
  have hc3 : c3 ≤ 38 := by omega
  rw [wrap_u64, show (38 * c3) % 18446744073709551616 = 38 * c3 by omega]
  refine plusT_good (u64_4.2 ⟨b0, b1, b2, b3⟩) (u64_4.2 ⟨by omega, by omega, by omega, by omega⟩) fun r0 r1 r2 r3 c d0 d1 d2 d3 e => ?_
  have e1 : val [38 * c3, 0, 0, 0] = 38 * c3 := by simp only [val]; omega
  rw [e1] at e
  have vr := val_range (u64_4.2 ⟨d0, d1, d2, d3⟩)
  rw [show pw [r0, r1, r2, r3].length = 115792089237316195423570985008687907853269984665640564039457584007913129639936 from pw4len _ _ _ _] at vr
  have hc : 0 ≤ c ∧ c ≤ 1 := by omega
  rw [wrap_u64, show (38 * c) % 18446744073709551616 = 38 * c by omega]
  refine plusT_good (u64_4.2 ⟨d0, d1, d2, d3⟩) (u64_4.2 ⟨by omega, by omega, by omega, by omega⟩) fun m0 m1 m2 m3 c' f0 f1 f2 f3 e' => ?_
  have e2 : val [38 * c, 0, 0, 0] = 38 * c := by simp only [val]; omega
  rw [e2] at e'
  have vm := val_range (u64_4.2 ⟨f0, f1, f2, f3⟩)
  rw [show pw [m0, m1, m2, m3].length = 115792089237316195423570985008687907853269984665640564039457584007913129639936 from pw4len _ _ _ _] at vm
  simp only [T.good]
  refine ⟨u64_4.2 ⟨f0, f1, f2, f3⟩, ?_⟩
  rw [hN]
  generalize val [m0, m1, m2, m3] = W at *
  generalize val [r0, r1, r2, r3] = R at *
  generalize val [a0, a1, a2, a3] = A at *
  generalize val [n0, n1, n2, n3] = B at *
  generalize val [n4, n5, n6, n7] = D at *
  clear hN e0 e1 e2 e3 b0 b1 b2 b3 d0 d1 d2 d3 f0 f1 f2 f3 hp
  have hc' : c' = 0 := by omega
  have : B + 115792089237316195423570985008687907853269984665640564039457584007913129639936 * D = W + P25 * (2 * D + 2 * c3 + 2 * c) := by simp only [P25]; omega
  rw [this, Int.add_mul_emod_self_left]

theorem fn54 : FnOk Tryd.prog GF 54 (ct [i8] (fun | [.l a] => U64 a | _ => False) [i4] (fun | [.l a] => [.l (toL 4 (val a % P25))] | _ => [])) := by
  refine fnOk_ct (cxF_ok (fns := [(51, plusC), (74, stepC), (52, belowC)]) ⟨fn51, fn74, fn52, trivial⟩) gF Tryd.func54 (c := body Tryd.f54) (by kernel_rfl) (enters_of Tryd.func54 (by kernel_rfl) (by kernel_rfl)) (bl := no) (fuel := 100) noBl ?_
  intro xs hfit hp
  obtain ⟨a, rfl, ha⟩ := fit_l1 hfit
  obtain ⟨n0, n1, n2, n3, n4, n5, n6, n7, rfl⟩ := len8 ha
  have u1 := hp
  simp only [U64.cons] at u1
  refine ⟨by simp [fit, fit1, toL_length], ?_⟩
  rw [run54]
  exact foldT_good n0 n1 n2 n3 n4 n5 n6 n7 u1.1 u1.2.1 u1.2.2.1 u1.2.2.2.1 u1.2.2.2.2.1 u1.2.2.2.2.2.1 u1.2.2.2.2.2.2.1 u1.2.2.2.2.2.2.2.1
end Go.Proofs.YtdmphnfpcblfnaaDoor
