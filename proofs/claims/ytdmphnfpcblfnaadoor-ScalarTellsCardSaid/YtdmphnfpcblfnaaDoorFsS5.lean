import Derived.Test.YtdmphnfpcblfnaaDoorFs17
import Derived.Test.YtdmphnfpcblfnaaDoorFsS4
/- The document's answer for scalars. -/
namespace Go.Proofs.YtdmphnfpcblfnaaDoor
open Go Go.Sx
set_option maxRecDepth 100000

theorem run70 : runX (cxF []) no 100 Tryd.f70 (body Tryd.f70) [] gmT = .ret (.ints .u64 4 orderL) := by kernel_rfl
abbrev rorderC : List SV → T SV := ct [] (fun _ => True) [i4] (fun _ => [.l orderL])
theorem fn70 : FnOk Tryd.prog GT 70 rorderC := by
  refine fnOk_ct (cxT_ok (fns := []) trivial) gT Tryd.func70 (c := body Tryd.f70) (by kernel_rfl) (enters_of Tryd.func70 (by kernel_rfl) (by kernel_rfl)) (bl := no) (fuel := 100) noBlT ?_
  intro xs hfit hp
  obtain rfl := fit_0 hfit
  refine ⟨by simp [fit, fit1, orderL], ?_⟩
  rw [show can [] [] = [] from rfl, run70]
  rfl

theorem run72 (a0 a1 a2 a3 b0 b1 b2 b3 : Int) : runX (cxF []) no 100 Tryd.f72 (body Tryd.f72) (can l2 [.l [a0, a1, a2, a3], .l [b0, b1, b2, b3]]) gmT =
  .ite (a3 != b3) (.ret (.bool (decide (a3 < b3)))) (.ite (a2 != b2) (.ret (.bool (decide (a2 < b2)))) (.ite (a1 != b1) (.ret (.bool (decide (a1 < b1)))) (.ite (a0 != b0) (.ret (.bool (decide (a0 < b0)))) (.ret .ff)))) := by kernel_rfl
theorem fn72 : FnOk Tryd.prog GT 72 lessC := by
  refine fnOk_gd (cxT_ok (fns := []) trivial) gT Tryd.func72 (c := body Tryd.f72) (by kernel_rfl) (enters_of Tryd.func72 (by kernel_rfl) (by kernel_rfl)) (fuel := 100) ?_
  intro xs hfit hp
  obtain ⟨a, b, rfl, ha, hb⟩ := fit_l2 hfit
  obtain ⟨a0, a1, a2, a3, rfl⟩ := len4 ha
  obtain ⟨b0, b1, b2, b3, rfl⟩ := len4 hb
  obtain ⟨u1, u2⟩ := hp
  have hq := u64_4.1 u1
  have hr := u64_4.1 u2
  refine ⟨no, noBlT, by simp [fit, fit1], Gd.of_eq (run72 a0 a1 a2 a3 b0 b1 b2 b3) ⟨?_⟩⟩
  have den (p q : Prop) [Decidable p] [Decidable q] (h : p ↔ q) : ∀ ρ, (SV.bool (decide p)).den ρ = (outV [.bool] [.b (decide q)]).den ρ := fun ρ => by rw [decide_eq_decide.2 h]; rfl
  simp only [T.good, bne_iff_ne, ne_eq, bne_eq_false_iff_eq]
  refine ⟨fun h => den _ _ (by simp only [val]; omega), fun e => ⟨fun h => den _ _ (by simp only [val]; omega), fun e2 => ⟨fun h => den _ _ (by simp only [val]; omega), fun e3 => ⟨fun h => den _ _ (by simp only [val]; omega), fun e4 => ?_⟩⟩⟩⟩
  intro ρ
  subst e; subst e2; subst e3; subst e4
  simp [SV.den, outV, can1]

theorem run69 (a0 a1 a2 a3 b0 b1 b2 b3 : Int) : runX (cxF []) no 100 Tryd.f69 (body Tryd.f69) (can l2 [.l [a0, a1, a2, a3], .l [b0, b1, b2, b3]]) gmT =
  bstepR a0 b0 false fun r0 c => bstepR a1 b1 c fun r1 c => bstepR a2 b2 c fun r2 c => bstepR a3 b3 c fun r3 _ => .ret (.ints .u64 4 [r0, r1, r2, r3]) := by kernel_rfl

theorem fn69 : FnOk Tryd.prog GT 69 takeC := by
  refine fnOk_gd (cxT_ok (fns := []) trivial) gT Tryd.func69 (c := body Tryd.f69) (by kernel_rfl) (enters_of Tryd.func69 (by kernel_rfl) (by kernel_rfl)) (fuel := 100) ?_
  intro xs hfit hp
  obtain ⟨a, b, rfl, ha, hb⟩ := fit_l2 hfit
  obtain ⟨a0, a1, a2, a3, rfl⟩ := len4 ha
  obtain ⟨b0, b1, b2, b3, rfl⟩ := len4 hb
  obtain ⟨u1, u2⟩ := hp
  have hq := u64_4.1 u1
  obtain ⟨p0, p1, p2, p3⟩ := hq
  have hr := u64_4.1 u2
  obtain ⟨q0, q1, q2, q3⟩ := hr
  have e := subL_eq 4 [a0, a1, a2, a3] [b0, b1, b2, b3] 0 rfl rfl u1 u2 (by omega) (by omega)
  rw [Int.sub_zero, Int.add_zero] at e
  simp only [subL] at e
  refine ⟨no, noBlT, fit_i4 _, Gd.of_eq (run69 a0 a1 a2 a3 b0 b1 b2 b3) ⟨?_⟩⟩
  refine bstepR_good p0 q0 (bstepR_good p1 q1 (bstepR_good p2 q2 (bstepR_good p3 q3 ?_)))
  intro ρ
  simp only [outV, can1, ← (Prod.mk.inj e).1, c01_dec]
  rfl


/-! ### Least -/
def leastN : Nat → List Int → T SV
  | 0, a => lessT a orderL fun b => isT (!b) false (.ret (.ints .u64 4 a))
  | q + 1, a => lessT a orderL fun b => isT (!b) true (takeT a orderL fun r => leastN q r)
noncomputable abbrev fns65 : List (Nat × (List SV → T SV)) := [(70, rorderC), (72, lessC), (69, takeC)]
theorem run65_0 (a : List Int) : prune (runX (cxF fns65) no 100 Tryd.f65 (body Tryd.f65) (can l1 [.l a]) gmT) [false] = .need True (leastN 0 a) := by kernel_rfl
theorem run65_1 (a : List Int) : prune (runX (cxF fns65) no 100 Tryd.f65 (body Tryd.f65) (can l1 [.l a]) gmT) [true, false] = .need True (leastN 1 a) := by kernel_rfl
theorem run65_2 (a : List Int) : prune (runX (cxF fns65) no 100 Tryd.f65 (body Tryd.f65) (can l1 [.l a]) gmT) [true, true, false] = .need True (leastN 2 a) := by kernel_rfl
theorem run65_3 (a : List Int) : prune (runX (cxF fns65) no 100 Tryd.f65 (body Tryd.f65) (can l1 [.l a]) gmT) [true, true, true, false] = .need True (leastN 3 a) := by kernel_rfl
theorem run65_4 (a : List Int) : prune (runX (cxF fns65) no 100 Tryd.f65 (body Tryd.f65) (can l1 [.l a]) gmT) [true, true, true, true, false] = .need True (leastN 4 a) := by kernel_rfl
theorem run65_5 (a : List Int) : prune (runX (cxF fns65) no 100 Tryd.f65 (body Tryd.f65) (can l1 [.l a]) gmT) [true, true, true, true, true, false] = .need True (leastN 5 a) := by kernel_rfl
theorem run65_6 (a : List Int) : prune (runX (cxF fns65) no 100 Tryd.f65 (body Tryd.f65) (can l1 [.l a]) gmT) [true, true, true, true, true, true, false] = .need True (leastN 6 a) := by kernel_rfl
theorem run65_7 (a : List Int) : prune (runX (cxF fns65) no 100 Tryd.f65 (body Tryd.f65) (can l1 [.l a]) gmT) [true, true, true, true, true, true, true, false] = .need True (leastN 7 a) := by kernel_rfl
theorem run65_8 (a : List Int) : prune (runX (cxF fns65) no 100 Tryd.f65 (body Tryd.f65) (can l1 [.l a]) gmT) [true, true, true, true, true, true, true, true, false] = .need True (leastN 8 a) := by kernel_rfl
theorem run65_9 (a : List Int) : prune (runX (cxF fns65) no 100 Tryd.f65 (body Tryd.f65) (can l1 [.l a]) gmT) [true, true, true, true, true, true, true, true, true, false] = .need True (leastN 9 a) := by kernel_rfl
theorem run65_10 (a : List Int) : prune (runX (cxF fns65) no 100 Tryd.f65 (body Tryd.f65) (can l1 [.l a]) gmT) [true, true, true, true, true, true, true, true, true, true, false] = .need True (leastN 10 a) := by kernel_rfl
theorem run65_11 (a : List Int) : prune (runX (cxF fns65) no 100 Tryd.f65 (body Tryd.f65) (can l1 [.l a]) gmT) [true, true, true, true, true, true, true, true, true, true, true, false] = .need True (leastN 11 a) := by kernel_rfl
theorem run65_12 (a : List Int) : prune (runX (cxF fns65) no 100 Tryd.f65 (body Tryd.f65) (can l1 [.l a]) gmT) [true, true, true, true, true, true, true, true, true, true, true, true, false] = .need True (leastN 12 a) := by kernel_rfl
theorem run65_13 (a : List Int) : prune (runX (cxF fns65) no 100 Tryd.f65 (body Tryd.f65) (can l1 [.l a]) gmT) [true, true, true, true, true, true, true, true, true, true, true, true, true, false] = .need True (leastN 13 a) := by kernel_rfl
theorem run65_14 (a : List Int) : prune (runX (cxF fns65) no 100 Tryd.f65 (body Tryd.f65) (can l1 [.l a]) gmT) [true, true, true, true, true, true, true, true, true, true, true, true, true, true, false] = .need True (leastN 14 a) := by kernel_rfl
theorem run65_15 (a : List Int) : prune (runX (cxF fns65) no 100 Tryd.f65 (body Tryd.f65) (can l1 [.l a]) gmT) [true, true, true, true, true, true, true, true, true, true, true, true, true, true, true, false] = .need True (leastN 15 a) := by kernel_rfl
theorem less_L (a : Int) : (a - L25) % L25 = a % L25 := by
  have := Int.add_mul_emod_self_left (a - L25) L25 1
  rw [Int.mul_one, Int.sub_add_cancel] at this
  exact this.symm
abbrev Q65 (a : List Int) (u : SV) : Prop := ∀ ρ, u.den ρ = (outV [i4] [.l (toL 4 (val a % L25))]).den ρ
theorem leastN_end (a : List Int) (ua : U64 a) (hl : a.length = 4) (hlt : val a < L25) : (leastN 0 a).good (Q65 a) := by
  have hr := val_range ua
  refine ⟨⟨ua, uOrder⟩, by rw [val_order, decide_eq_true hlt]; rfl, fun ρ => ?_⟩
  have ht := toL_val ua
  rw [hl] at ht
  rw [Int.emod_eq_of_lt hr.1 hlt, ht]
  rfl
theorem leastN_more (q : Nat) (a : List Int) (ua : U64 a) (hge : L25 ≤ val a) (hlt : val a < 115792089237316195423570985008687907853269984665640564039457584007913129639936)
    (h : (leastN q (toL 4 (val a - L25))).good (Q65 (toL 4 (val a - L25)))) : (leastN (q + 1) a).good (Q65 a) := by
  have hL := L_pos
  have hv : val (toL 4 (val a - L25)) = val a - L25 := by
    rw [val_toL4]
    exact Int.emod_eq_of_lt (by omega) (Int.lt_of_le_of_lt (Int.sub_le_self _ (by decide)) hlt)
  refine ⟨⟨ua, uOrder⟩, by rw [val_order, decide_eq_false (by omega)]; rfl, ⟨ua, uOrder⟩, ?_⟩
  rw [val_order]
  refine T.good_mono h fun u hu ρ => ?_
  rw [hu ρ, hv, less_L]
theorem leastN_good (q : Nat) : ∀ a : List Int, U64 a → a.length = 4 → val a < 115792089237316195423570985008687907853269984665640564039457584007913129639936 → (q : Int) * L25 ≤ val a → val a < ((q : Int) + 1) * L25 → (leastN q a).good (Q65 a) := by
  induction q with
  | zero =>
    intro a ua hl _ _ h1
    exact leastN_end a ua hl (by rw [Int.natCast_zero, Int.zero_add, Int.one_mul] at h1; exact h1)
  | succ q ih =>
    intro a ua hl hb h0 h1
    have hL := L_pos
    have hq : 0 ≤ (q : Int) * L25 := Int.mul_nonneg (Int.natCast_nonneg q) (Int.le_of_lt hL)
    rw [Int.natCast_add, Int.natCast_one, Int.add_mul, Int.one_mul] at h0
    rw [Int.natCast_add, Int.natCast_one, Int.add_mul, Int.add_mul, Int.one_mul] at h1
    have hv : val (toL 4 (val a - L25)) = val a - L25 := by
      rw [val_toL4]
      exact Int.emod_eq_of_lt (by omega) (Int.lt_of_le_of_lt (Int.sub_le_self _ (by decide)) hb)
    exact leastN_more q a ua (by omega) hb (ih _ (toL_u64 _ _) (toL_length _ _) (by rw [hv]; exact Int.lt_of_le_of_lt (Int.sub_le_self _ (by decide)) hb) (by rw [hv]; omega) (by rw [hv, Int.add_mul, Int.one_mul]; omega))
theorem fns65_ok : FnsOk Tryd.prog GT fns65 := ⟨fn70, fn72, fn69, trivial⟩
theorem fn65 : FnOk Tryd.prog GT 65 belowSC := by
  refine fnOk_gd (cxT_ok fns65_ok) gT Tryd.func65 (c := body Tryd.f65) (by kernel_rfl) (enters_of Tryd.func65 (by kernel_rfl) (by kernel_rfl)) (fuel := 100) ?_
  intro xs hfit hp
  obtain ⟨a, rfl, ha⟩ := fit_l1 hfit
  have ua : U64 a := hp
  have hr := val4_range ua ha
  have hL := L_pos
  refine ⟨no, noBlT, fit_i4 _, ?_⟩
  have h0 : 0 ≤ val a / L25 := Int.ediv_nonneg hr.1 (Int.le_of_lt hL)
  have h1 : val a / L25 < 16 := Int.ediv_lt_of_lt_mul hL (Int.lt_of_lt_of_le hr.2 (by decide))
  have e := Int.emod_add_mul_ediv (val a) L25
  have hm := modL (val a)
  have key : ∀ q : Nat, val a / L25 = q → Gd (.need True (leastN q a)) (Q65 a) := fun q hq => ⟨⟨trivial, leastN_good q a ua ha hr.2 (by rw [hq, Int.mul_comm] at e; omega) (by rw [hq, Int.mul_comm] at e; rw [Int.add_mul, Int.one_mul]; omega)⟩⟩
  obtain ⟨q, hq⟩ := Int.eq_ofNat_of_zero_le h0
  have hg := key q hq
  have hlt : q < 16 := by omega
  clear key e hq h0 h1 hm
  revert hg
  match q, hlt with
  | 0, _ => exact fun hg => Gd.of_run (run65_0 a) hg
  | 1, _ => exact fun hg => Gd.of_run (run65_1 a) hg
  | 2, _ => exact fun hg => Gd.of_run (run65_2 a) hg
  | 3, _ => exact fun hg => Gd.of_run (run65_3 a) hg
  | 4, _ => exact fun hg => Gd.of_run (run65_4 a) hg
  | 5, _ => exact fun hg => Gd.of_run (run65_5 a) hg
  | 6, _ => exact fun hg => Gd.of_run (run65_6 a) hg
  | 7, _ => exact fun hg => Gd.of_run (run65_7 a) hg
  | 8, _ => exact fun hg => Gd.of_run (run65_8 a) hg
  | 9, _ => exact fun hg => Gd.of_run (run65_9 a) hg
  | 10, _ => exact fun hg => Gd.of_run (run65_10 a) hg
  | 11, _ => exact fun hg => Gd.of_run (run65_11 a) hg
  | 12, _ => exact fun hg => Gd.of_run (run65_12 a) hg
  | 13, _ => exact fun hg => Gd.of_run (run65_13 a) hg
  | 14, _ => exact fun hg => Gd.of_run (run65_14 a) hg
  | 15, _ => exact fun hg => Gd.of_run (run65_15 a) hg
  | _ + 16, h => exact absurd h (by omega)

/-! ### Add, Neg, Bytes, Check -/
theorem run37 (a b : List Int) : runX (cxF [(65, belowSC)]) no 100 Tryd.f37 (body Tryd.f37) (can l2 [.l a, .l b]) gmT =
  belS a fun a => belS b fun b => bstepA (a.getD 0 0) (b.getD 0 0) false fun r0 c => bstepA (a.getD 1 0) (b.getD 1 0) c fun r1 c => bstepA (a.getD 2 0) (b.getD 2 0) c fun r2 c => bstepA (a.getD 3 0) (b.getD 3 0) c fun r3 _ => belS [r0, r1, r2, r3] fun r => l11 r := by kernel_rfl
theorem fn37 : FnOk Tryd.prog GT 37 addSC := by
  refine fnOk_gd (cxT_ok (fns := [(65, belowSC)]) ⟨fn65, trivial⟩) gT Tryd.func37 (c := body Tryd.f37) (by kernel_rfl) (enters_of Tryd.func37 (by kernel_rfl) (by kernel_rfl)) (fuel := 100) ?_
  intro xs hfit hp
  obtain ⟨a, b, rfl, ha, hb⟩ := fit_l2 hfit
  obtain ⟨u1, u2⟩ := hp
  refine ⟨no, noBlT, fit_i4 _, Gd.of_eq (run37 a b) ⟨?_⟩⟩
  simp only [belS, T.good]
  refine ⟨u1, u2, ?_⟩
  have va := val_toLL (val a)
  have vb := val_toLL (val b)
  obtain ⟨a0, a1, a2, a3, ea⟩ := len4 (toL_length 4 (val a % L25))
  obtain ⟨b0, b1, b2, b3, eb⟩ := len4 (toL_length 4 (val b % L25))
  have ua : U64 [a0, a1, a2, a3] := ea ▸ toL_u64 4 _
  have ub : U64 [b0, b1, b2, b3] := eb ▸ toL_u64 4 _
  rw [ea, eb]
  rw [ea] at va
  rw [eb] at vb
  simp only [List.getD_cons_succ, List.getD_cons_zero]
  refine addA a0 a1 a2 a3 b0 b1 b2 b3 ua ub (fun s => .need (U64 s) (l11 (toL 4 (val s % L25)))) _ ⟨toL_u64 _ _, fun ρ => ?_⟩
  have h1 := modL (val a)
  have h2 := modL (val b)
  have hb : L25 + L25 < 115792089237316195423570985008687907853269984665640564039457584007913129639936 := by decide
  rw [va, vb, val_toL4, Int.emod_eq_of_lt (a := val a % L25 + val b % L25) (by omega) (by omega), ← Int.add_emod]
  rfl
theorem run41 (a : List Int) : runX (cxF [(65, belowSC), (70, rorderC), (69, takeC)]) no 100 Tryd.f41 (body Tryd.f41) (can l1 [.l a]) gmT = .need True (belS a fun a => takeT orderL a fun s => belS s fun r => l11 r) := by kernel_rfl
theorem fn41 : FnOk Tryd.prog GT 41 negSC := by
  refine fnOk_gd (cxT_ok (fns := [(65, belowSC), (70, rorderC), (69, takeC)]) ⟨fn65, fn70, fn69, trivial⟩) gT Tryd.func41 (c := body Tryd.f41) (by kernel_rfl) (enters_of Tryd.func41 (by kernel_rfl) (by kernel_rfl)) (fuel := 100) ?_
  intro xs hfit hp
  obtain ⟨a, rfl, ha⟩ := fit_l1 hfit
  have u1 : U64 a := hp
  refine ⟨no, noBlT, fit_i4 _, Gd.of_eq (run41 a) ⟨?_⟩⟩
  simp only [belS, takeT, T.good, val_toLL, val_order]
  refine ⟨trivial, u1, ⟨uOrder, ut4 _⟩, ut4 _, fun ρ => ?_⟩
  have hm := modL (val a)
  have hb : L25 < 115792089237316195423570985008687907853269984665640564039457584007913129639936 := by decide
  have e1 : val (toL 4 (L25 - val a % L25)) = L25 - val a % L25 := by
    rw [val_toL4]; exact Int.emod_eq_of_lt (by omega) (by omega)
  rw [e1]
  have e2 : (L25 - val a % L25) % L25 = (-val a) % L25 := by
    apply fl_eq.1
    rw [Int.sub_eq_add_neg, fl_add, fl_neg, fl_mod, fl_neg, show fl L25 = 0 by rw [← fl_zero, fl_eq]; decide]
    grind
  rw [e2]
  rfl
theorem run47 (a : List Int) : runX (cxF [(65, belowSC)]) no 100 Tryd.f47 (body Tryd.f47) (can l1 [.l a]) gmT = belS a fun a => .ret (.ints .u8 32 [IntKind.u8.wrap (shrI .u64 (a.getD 0 0) 0), IntKind.u8.wrap (shrI .u64 (a.getD 0 0) 8), IntKind.u8.wrap (shrI .u64 (a.getD 0 0) 16), IntKind.u8.wrap (shrI .u64 (a.getD 0 0) 24), IntKind.u8.wrap (shrI .u64 (a.getD 0 0) 32), IntKind.u8.wrap (shrI .u64 (a.getD 0 0) 40), IntKind.u8.wrap (shrI .u64 (a.getD 0 0) 48), IntKind.u8.wrap (shrI .u64 (a.getD 0 0) 56), IntKind.u8.wrap (shrI .u64 (a.getD 1 0) 0), IntKind.u8.wrap (shrI .u64 (a.getD 1 0) 8), IntKind.u8.wrap (shrI .u64 (a.getD 1 0) 16), IntKind.u8.wrap (shrI .u64 (a.getD 1 0) 24), IntKind.u8.wrap (shrI .u64 (a.getD 1 0) 32), IntKind.u8.wrap (shrI .u64 (a.getD 1 0) 40), IntKind.u8.wrap (shrI .u64 (a.getD 1 0) 48), IntKind.u8.wrap (shrI .u64 (a.getD 1 0) 56), IntKind.u8.wrap (shrI .u64 (a.getD 2 0) 0), IntKind.u8.wrap (shrI .u64 (a.getD 2 0) 8), IntKind.u8.wrap (shrI .u64 (a.getD 2 0) 16), IntKind.u8.wrap (shrI .u64 (a.getD 2 0) 24), IntKind.u8.wrap (shrI .u64 (a.getD 2 0) 32), IntKind.u8.wrap (shrI .u64 (a.getD 2 0) 40), IntKind.u8.wrap (shrI .u64 (a.getD 2 0) 48), IntKind.u8.wrap (shrI .u64 (a.getD 2 0) 56), IntKind.u8.wrap (shrI .u64 (a.getD 3 0) 0), IntKind.u8.wrap (shrI .u64 (a.getD 3 0) 8), IntKind.u8.wrap (shrI .u64 (a.getD 3 0) 16), IntKind.u8.wrap (shrI .u64 (a.getD 3 0) 24), IntKind.u8.wrap (shrI .u64 (a.getD 3 0) 32), IntKind.u8.wrap (shrI .u64 (a.getD 3 0) 40), IntKind.u8.wrap (shrI .u64 (a.getD 3 0) 48), IntKind.u8.wrap (shrI .u64 (a.getD 3 0) 56)]) := by kernel_rfl
theorem fn47 : FnOk Tryd.prog GT 47 bytesSC := by
  refine fnOk_ct (cxT_ok (fns := [(65, belowSC)]) ⟨fn65, trivial⟩) gT Tryd.func47 (c := body Tryd.f47) (by kernel_rfl) (enters_of Tryd.func47 (by kernel_rfl) (by kernel_rfl)) (bl := no) (fuel := 100) noBlT ?_
  intro xs hfit hp
  obtain ⟨a, rfl, ha⟩ := fit_l1 hfit
  have ua : U64 a := hp
  refine ⟨by simp [fit, fit1, toB_length], ?_⟩
  rw [run47]
  simp only [belS, T.good]
  refine ⟨ua, ?_⟩
  generalize val a % L25 = N
  have e : toB 32 N = toB 8 N ++ (toB 8 (N / 18446744073709551616) ++ (toB 8 (N / 18446744073709551616 / 18446744073709551616) ++ toB 8 (N / 18446744073709551616 / 18446744073709551616 / 18446744073709551616))) := by
    rw [show (32 : Nat) = 8 + (8 + (8 + 8)) from rfl, toB_add, toB_add, toB_add]
    rfl
  simp only [outV, can1]
  rw [e, ← word_bytes N, ← word_bytes (N / _), ← word_bytes (N / _ / _), ← word_bytes (N / _ / _ / _)]
  rfl


theorem run49 (b0 b1 b2 b3 b4 b5 b6 b7 b8 b9 b10 b11 b12 b13 b14 b15 b16 b17 b18 b19 b20 b21 b22 b23 b24 b25 b26 b27 b28 b29 b30 b31 : Int) : runX (cxF [(70, rorderC), (72, lessC)]) no 100 Tryd.f49 (body Tryd.f49) (can [.ints .u8 32] [.l [b0, b1, b2, b3, b4, b5, b6, b7, b8, b9, b10, b11, b12, b13, b14, b15, b16, b17, b18, b19, b20, b21, b22, b23, b24, b25, b26, b27, b28, b29, b30, b31]]) gmT =
  .need True (lessT [w8 b0 b1 b2 b3 b4 b5 b6 b7, w8 b8 b9 b10 b11 b12 b13 b14 b15, w8 b16 b17 b18 b19 b20 b21 b22 b23, w8 b24 b25 b26 b27 b28 b29 b30 b31] orderL fun b => .ret (.bool b)) := by kernel_rfl
theorem fn49 : FnOk Tryd.prog GT 49 checkSC := by
  refine fnOk_gd (cxT_ok (fns := [(70, rorderC), (72, lessC)]) ⟨fn70, fn72, trivial⟩) gT Tryd.func49 (c := body Tryd.f49) (by kernel_rfl) (enters_of Tryd.func49 (by kernel_rfl) (by kernel_rfl)) (fuel := 100) ?_
  intro xs hfit hp
  obtain ⟨b, rfl, hb⟩ := fit_l1 hfit
  have ub : U8 b := hp
  clear hp hfit
  obtain ⟨b0, b1, b2, b3, b4, b5, b6, b7, b8, b9, b10, b11, b12, b13, b14, b15, b16, b17, b18, b19, b20, b21, b22, b23, b24, b25, b26, b27, b28, b29, b30, b31, rfl⟩ := len32 hb
  have hs : [b0, b1, b2, b3, b4, b5, b6, b7, b8, b9, b10, b11, b12, b13, b14, b15, b16, b17, b18, b19, b20, b21, b22, b23, b24, b25, b26, b27, b28, b29, b30, b31] = [b0, b1, b2, b3, b4, b5, b6, b7] ++ ([b8, b9, b10, b11, b12, b13, b14, b15] ++ ([b16, b17, b18, b19, b20, b21, b22, b23] ++ [b24, b25, b26, b27, b28, b29, b30, b31])) := rfl
  have hu := ub
  rw [hs, U8.append, U8.append, U8.append] at hu
  obtain ⟨u0, u1, u2, u3⟩ := hu
  have r0 := bv8_range _ _ _ _ _ _ _ _ u0
  have r1 := bv8_range _ _ _ _ _ _ _ _ u1
  have r2 := bv8_range _ _ _ _ _ _ _ _ u2
  have r3 := bv8_range _ _ _ _ _ _ _ _ u3
  have hv : bv [b0, b1, b2, b3, b4, b5, b6, b7, b8, b9, b10, b11, b12, b13, b14, b15, b16, b17, b18, b19, b20, b21, b22, b23, b24, b25, b26, b27, b28, b29, b30, b31] = val [bv [b0, b1, b2, b3, b4, b5, b6, b7], bv [b8, b9, b10, b11, b12, b13, b14, b15], bv [b16, b17, b18, b19, b20, b21, b22, b23], bv [b24, b25, b26, b27, b28, b29, b30, b31]] := by
    rw [hs, bv_append8, bv_append8, bv_append8]
    simp only [val]
    omega
  refine ⟨no, noBlT, by simp [fit, fit1], Gd.of_eq (run49 b0 b1 b2 b3 b4 b5 b6 b7 b8 b9 b10 b11 b12 b13 b14 b15 b16 b17 b18 b19 b20 b21 b22 b23 b24 b25 b26 b27 b28 b29 b30 b31) ⟨?_⟩⟩
  rw [w8_eq _ _ _ _ _ _ _ _ u0, w8_eq _ _ _ _ _ _ _ _ u1, w8_eq _ _ _ _ _ _ _ _ u2, w8_eq _ _ _ _ _ _ _ _ u3]
  refine ⟨trivial, ⟨u64_4.2 ⟨r0, r1, r2, r3⟩, uOrder⟩, fun ρ => ?_⟩
  rw [← hv, val_order]
  rfl
end Go.Proofs.YtdmphnfpcblfnaaDoor
