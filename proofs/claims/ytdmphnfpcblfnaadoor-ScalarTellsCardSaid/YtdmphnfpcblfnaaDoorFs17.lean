import Derived.Test.YtdmphnfpcblfnaaDoorFs16
/- The document's answer for the field: sums, differences, bytes. -/
namespace Go.Proofs.YtdmphnfpcblfnaaDoor
open Go Go.Sx
set_option maxRecDepth 100000

def bstepA (x y : Int) (c : Bool) (k : Int → Bool → T SV) : T SV :=
  .ite (decide (IntKind.u64.wrap (IntKind.u64.wrap (x + y) + c01 c) < x)) (k (IntKind.u64.wrap (IntKind.u64.wrap (x + y) + c01 c)) true) (.ite (IntKind.u64.wrap (IntKind.u64.wrap (x + y) + c01 c) == x) (k (IntKind.u64.wrap (IntKind.u64.wrap (x + y) + c01 c)) c) (k (IntKind.u64.wrap (IntKind.u64.wrap (x + y) + c01 c)) false))
theorem bstepA_good {x y : Int} {c : Bool} {k : Int → Bool → T SV} {Q : SV → Prop} (hx : 0 ≤ x ∧ x < 18446744073709551616) (hy : 0 ≤ y ∧ y < 18446744073709551616)
    (h : (k ((x + y + c01 c) % 18446744073709551616) (decide (18446744073709551616 ≤ x + y + c01 c))).good Q) : (bstepA x y c k).good Q := by
  have e : IntKind.u64.wrap (IntKind.u64.wrap (x + y) + c01 c) = (x + y + c01 c) % 18446744073709551616 := by
    simp only [wrap_u64]; cases c <;> simp only [c01] <;> omega
  unfold bstepA
  rw [e]
  simp only [T.good, decide_eq_true_eq, decide_eq_false_iff_not, beq_iff_eq, beq_eq_false_iff_ne, ne_eq]
  refine ⟨fun h1 => ?_, fun h1 => ⟨fun h2 => ?_, fun h2 => ?_⟩⟩
  · rwa [decide_eq_true (show 18446744073709551616 ≤ x + y + c01 c by cases c <;> simp only [c01] at * <;> omega)] at h
  · cases c with
    | true => rwa [decide_eq_true (show 18446744073709551616 ≤ x + y + c01 true by simp only [c01] at *; omega)] at h
    | false => rwa [decide_eq_false (show ¬ 18446744073709551616 ≤ x + y + c01 false by simp only [c01] at *; omega)] at h
  · rwa [decide_eq_false (show ¬ 18446744073709551616 ≤ x + y + c01 c by cases c <;> simp only [c01] at * <;> omega)] at h

theorem run15 (a b : List Int) : runX (cxF [(53, belowC)]) no 100 Tryd.f15 (body Tryd.f15) (can l2 [.l a, .l b]) gmT =
  belT a fun a => belT b fun b => bstepA (a.getD 0 0) (b.getD 0 0) false fun r0 c => bstepA (a.getD 1 0) (b.getD 1 0) c fun r1 c => bstepA (a.getD 2 0) (b.getD 2 0) c fun r2 c => bstepA (a.getD 3 0) (b.getD 3 0) c fun r3 _ => belT [r0, r1, r2, r3] fun r => l11 r := by kernel_rfl

theorem c01_le (s : Int) : c01 (decide (18446744073709551616 ≤ s)) = if 18446744073709551616 ≤ s then 1 else 0 := c01_dec _
theorem addA (a0 a1 a2 a3 b0 b1 b2 b3 : Int) (ha : U64 [a0, a1, a2, a3]) (hb : U64 [b0, b1, b2, b3]) (k : List Int → T SV) (Q : SV → Prop)
    (h : (k (toL 4 (val [a0, a1, a2, a3] + val [b0, b1, b2, b3]))).good Q) :
    (bstepA a0 b0 false fun r0 c => bstepA a1 b1 c fun r1 c => bstepA a2 b2 c fun r2 c => bstepA a3 b3 c fun r3 _ => k [r0, r1, r2, r3]).good Q := by
  have hq := u64_4.1 ha
  obtain ⟨p0, p1, p2, p3⟩ := hq
  have hr := u64_4.1 hb
  obtain ⟨q0, q1, q2, q3⟩ := hr
  have e := addL_eq 4 [a0, a1, a2, a3] [b0, b1, b2, b3] 0 rfl rfl
  rw [Int.add_zero] at e
  simp only [addL] at e
  refine bstepA_good p0 q0 (bstepA_good p1 q1 (bstepA_good p2 q2 (bstepA_good p3 q3 ?_)))
  rw [← (Prod.mk.inj e).1] at h
  have c (x y z : Int) (hx : 0 ≤ x ∧ x < 18446744073709551616) (hy : 0 ≤ y ∧ y < 18446744073709551616) (hz : 0 ≤ z ∧ z ≤ 1) : c01 (decide (18446744073709551616 ≤ x + y + z)) = (x + y + z) / 18446744073709551616 := by
    rw [c01_le]; split <;> omega
  have d0 : c01 false = 0 := rfl
  have e0 := c a0 b0 0 p0 q0 (by omega)
  have e1 := c a1 b1 ((a0 + b0 + 0) / 18446744073709551616) p1 q1 (by omega)
  have e2 := c a2 b2 ((a1 + b1 + (a0 + b0 + 0) / 18446744073709551616) / 18446744073709551616) p2 q2 (by omega)
  rw [d0, e0, e1, e2]
  exact h

theorem fn15 : FnOk Tryd.prog GT 15 addC := by
  refine fnOk_gd (cxT_ok (fns := [(53, belowC)]) ⟨fn53, trivial⟩) gT Tryd.func15 (c := body Tryd.f15) (by kernel_rfl) (enters_of Tryd.func15 (by kernel_rfl) (by kernel_rfl)) (fuel := 100) ?_
  intro xs hfit hp
  obtain ⟨a, b, rfl, ha, hb⟩ := fit_l2 hfit
  obtain ⟨u1, u2⟩ := hp
  refine ⟨no, noBlT, fit_i4 _, Gd.of_eq (run15 a b) ⟨?_⟩⟩
  simp only [belT, T.good]
  refine ⟨u1, u2, ?_⟩
  have va := val_toLP (val a)
  have vb := val_toLP (val b)
  obtain ⟨a0, a1, a2, a3, ea⟩ := len4 (toL_length 4 (val a % P25))
  obtain ⟨b0, b1, b2, b3, eb⟩ := len4 (toL_length 4 (val b % P25))
  have ua : U64 [a0, a1, a2, a3] := ea ▸ toL_u64 4 _
  have ub : U64 [b0, b1, b2, b3] := eb ▸ toL_u64 4 _
  rw [ea, eb]
  rw [ea] at va
  rw [eb] at vb
  simp only [List.getD_cons_succ, List.getD_cons_zero]
  refine addA a0 a1 a2 a3 b0 b1 b2 b3 ua ub (fun s => .need (U64 s) (l11 (toL 4 (val s % P25)))) _ ⟨toL_u64 _ _, fun ρ => ?_⟩
  have h1 := modP (val a)
  have h2 := modP (val b)
  rw [va, vb, val_toL4, Int.emod_eq_of_lt (a := val a % P25 + val b % P25) (by omega) (by simp only [P25] at *; omega), ← Int.add_emod]
  rfl

theorem run21 (a : List Int) : runX (cxF [(53, belowC), (59, primeC), (58, takeC)]) no 100 Tryd.f21 (body Tryd.f21) (can l1 [.l a]) gmT = .need True (belT a fun a => takeT primeL a fun s => belT s fun r => l11 r) := by kernel_rfl
theorem fn21 : FnOk Tryd.prog GT 21 negC := by
  refine fnOk_gd (cxT_ok (fns := [(53, belowC), (59, primeC), (58, takeC)]) ⟨fn53, fn59, fn58, trivial⟩) gT Tryd.func21 (c := body Tryd.f21) (by kernel_rfl) (enters_of Tryd.func21 (by kernel_rfl) (by kernel_rfl)) (fuel := 100) ?_
  intro xs hfit hp
  obtain ⟨a, rfl, ha⟩ := fit_l1 hfit
  have u1 : U64 a := hp
  refine ⟨no, noBlT, fit_i4 _, Gd.of_eq (run21 a) ⟨?_⟩⟩
  simp only [belT, takeT, T.good, val_toLP, val_prime]
  refine ⟨trivial, u1, ⟨uPrime, ut4 _⟩, ut4 _, fun ρ => ?_⟩
  have hm := modP (val a)
  have e1 : val (toL 4 (P25 - val a % P25)) = P25 - val a % P25 := by
    rw [val_toL4]; exact Int.emod_eq_of_lt (by omega) (by simp only [P25] at *; omega)
  rw [e1]
  have e2 : (P25 - val a % P25) % P25 = (-val a) % P25 := by
    apply fp_eq.1
    rw [fp_sub, fp_mod, fp_neg, show fp P25 = 0 by rw [fp_zero_iff]; decide]
    grind
  rw [e2]
  rfl
theorem run17 (a b : List Int) : runX (cxF [(15, addC), (21, negC)]) no 100 Tryd.f17 (body Tryd.f17) (can l2 [.l a, .l b]) gmT = (neg1T b fun n => add2T a n fun r => l11 r) := by kernel_rfl
theorem fn17 : FnOk Tryd.prog GT 17 subC := by
  refine fnOk_gd (cxT_ok (fns := [(15, addC), (21, negC)]) ⟨fn15, fn21, trivial⟩) gT Tryd.func17 (c := body Tryd.f17) (by kernel_rfl) (enters_of Tryd.func17 (by kernel_rfl) (by kernel_rfl)) (fuel := 100) ?_
  intro xs hfit hp
  obtain ⟨a, b, rfl, ha, hb⟩ := fit_l2 hfit
  obtain ⟨u1, u2⟩ := hp
  refine ⟨no, noBlT, fit_i4 _, Gd.of_eq (run17 a b) ⟨?_⟩⟩
  simp only [neg1T, add2T, T.good, val_toLP]
  refine ⟨u2, ⟨u1, ut4 _⟩, fun ρ => ?_⟩
  rw [Int.add_emod, Int.emod_emod_of_dvd _ (Int.dvd_refl P25), ← Int.add_emod, Int.sub_eq_add_neg]
  rfl

theorem run23 (b0 b1 b2 b3 b4 b5 b6 b7 b8 b9 b10 b11 b12 b13 b14 b15 b16 b17 b18 b19 b20 b21 b22 b23 b24 b25 b26 b27 b28 b29 b30 b31 : Int) : runX (cxF [(53, belowC)]) no 100 Tryd.f23 (body Tryd.f23) (can [.ints .u8 32] [.l [b0, b1, b2, b3, b4, b5, b6, b7, b8, b9, b10, b11, b12, b13, b14, b15, b16, b17, b18, b19, b20, b21, b22, b23, b24, b25, b26, b27, b28, b29, b30, b31]]) gmT = belT [w8 b0 b1 b2 b3 b4 b5 b6 b7, w8 b8 b9 b10 b11 b12 b13 b14 b15, w8 b16 b17 b18 b19 b20 b21 b22 b23, w8 b24 b25 b26 b27 b28 b29 b30 b31] fun r => l11 r := by kernel_rfl
theorem fn23 : FnOk Tryd.prog GT 23 ofC := by
  refine fnOk_ct (cxT_ok (fns := [(53, belowC)]) ⟨fn53, trivial⟩) gT Tryd.func23 (c := body Tryd.f23) (by kernel_rfl) (enters_of Tryd.func23 (by kernel_rfl) (by kernel_rfl)) (bl := no) (fuel := 100) noBlT ?_
  intro xs hfit hp
  obtain ⟨b, rfl, hb⟩ := fit_l1 hfit
  have ub : U8 b := hp
  clear hp hfit
  obtain ⟨b0, b1, b2, b3, b4, b5, b6, b7, b8, b9, b10, b11, b12, b13, b14, b15, b16, b17, b18, b19, b20, b21, b22, b23, b24, b25, b26, b27, b28, b29, b30, b31, rfl⟩ := len32 hb
  have hs : [b0, b1, b2, b3, b4, b5, b6, b7, b8, b9, b10, b11, b12, b13, b14, b15, b16, b17, b18, b19, b20, b21, b22, b23, b24, b25, b26, b27, b28, b29, b30, b31] = [b0, b1, b2, b3, b4, b5, b6, b7] ++ ([b8, b9, b10, b11, b12, b13, b14, b15] ++ ([b16, b17, b18, b19, b20, b21, b22, b23] ++ [b24, b25, b26, b27, b28, b29, b30, b31])) := rfl
  have hu := ub
  rw [hs, U8.append, U8.append, U8.append] at hu
  obtain ⟨u0, u1, u2, u3⟩ := hu
  have r0 := bv8_range _ _ _ _ _ _ _ _ u0
  have r1 := bv8_range _ _ _ _ _ _ _ _ u1
  have r2 := bv8_range _ _ _ _ _ _ _ _ u2
  have r3 := bv8_range _ _ _ _ _ _ _ _ u3
  have hv : bv [b0, b1, b2, b3, b4, b5, b6, b7, b8, b9, b10, b11, b12, b13, b14, b15, b16, b17, b18, b19, b20, b21, b22, b23, b24, b25, b26, b27, b28, b29, b30, b31] = val [bv [b0, b1, b2, b3, b4, b5, b6, b7], bv [b8, b9, b10, b11, b12, b13, b14, b15], bv [b16, b17, b18, b19, b20, b21, b22, b23], bv [b24, b25, b26, b27, b28, b29, b30, b31]] := by
    rw [hs, bv_append8, bv_append8, bv_append8]
    simp only [val]
    omega
  refine ⟨fit_i4 _, ?_⟩
  rw [run23, w8_eq _ _ _ _ _ _ _ _ u0, w8_eq _ _ _ _ _ _ _ _ u1, w8_eq _ _ _ _ _ _ _ _ u2, w8_eq _ _ _ _ _ _ _ _ u3]
  simp only [belT, T.good]
  refine ⟨u64_4.2 ⟨r0, r1, r2, r3⟩, ?_⟩
  rw [← hv]
  rfl


theorem run25 (a : List Int) : runX (cxF [(53, belowC)]) no 100 Tryd.f25 (body Tryd.f25) (can l1 [.l a]) gmT = belT a fun a => .ret (.ints .u8 32 [IntKind.u8.wrap (shrI .u64 (a.getD 0 0) 0), IntKind.u8.wrap (shrI .u64 (a.getD 0 0) 8), IntKind.u8.wrap (shrI .u64 (a.getD 0 0) 16), IntKind.u8.wrap (shrI .u64 (a.getD 0 0) 24), IntKind.u8.wrap (shrI .u64 (a.getD 0 0) 32), IntKind.u8.wrap (shrI .u64 (a.getD 0 0) 40), IntKind.u8.wrap (shrI .u64 (a.getD 0 0) 48), IntKind.u8.wrap (shrI .u64 (a.getD 0 0) 56), IntKind.u8.wrap (shrI .u64 (a.getD 1 0) 0), IntKind.u8.wrap (shrI .u64 (a.getD 1 0) 8), IntKind.u8.wrap (shrI .u64 (a.getD 1 0) 16), IntKind.u8.wrap (shrI .u64 (a.getD 1 0) 24), IntKind.u8.wrap (shrI .u64 (a.getD 1 0) 32), IntKind.u8.wrap (shrI .u64 (a.getD 1 0) 40), IntKind.u8.wrap (shrI .u64 (a.getD 1 0) 48), IntKind.u8.wrap (shrI .u64 (a.getD 1 0) 56), IntKind.u8.wrap (shrI .u64 (a.getD 2 0) 0), IntKind.u8.wrap (shrI .u64 (a.getD 2 0) 8), IntKind.u8.wrap (shrI .u64 (a.getD 2 0) 16), IntKind.u8.wrap (shrI .u64 (a.getD 2 0) 24), IntKind.u8.wrap (shrI .u64 (a.getD 2 0) 32), IntKind.u8.wrap (shrI .u64 (a.getD 2 0) 40), IntKind.u8.wrap (shrI .u64 (a.getD 2 0) 48), IntKind.u8.wrap (shrI .u64 (a.getD 2 0) 56), IntKind.u8.wrap (shrI .u64 (a.getD 3 0) 0), IntKind.u8.wrap (shrI .u64 (a.getD 3 0) 8), IntKind.u8.wrap (shrI .u64 (a.getD 3 0) 16), IntKind.u8.wrap (shrI .u64 (a.getD 3 0) 24), IntKind.u8.wrap (shrI .u64 (a.getD 3 0) 32), IntKind.u8.wrap (shrI .u64 (a.getD 3 0) 40), IntKind.u8.wrap (shrI .u64 (a.getD 3 0) 48), IntKind.u8.wrap (shrI .u64 (a.getD 3 0) 56)]) := by kernel_rfl
theorem fn25 : FnOk Tryd.prog GT 25 bytesC := by
  refine fnOk_ct (cxT_ok (fns := [(53, belowC)]) ⟨fn53, trivial⟩) gT Tryd.func25 (c := body Tryd.f25) (by kernel_rfl) (enters_of Tryd.func25 (by kernel_rfl) (by kernel_rfl)) (bl := no) (fuel := 100) noBlT ?_
  intro xs hfit hp
  obtain ⟨a, rfl, ha⟩ := fit_l1 hfit
  have ua : U64 a := hp
  refine ⟨by simp [fit, fit1, toB_length], ?_⟩
  rw [run25]
  simp only [belT, T.good]
  refine ⟨ua, ?_⟩
  generalize val a % P25 = N
  have e : toB 32 N = toB 8 N ++ (toB 8 (N / 18446744073709551616) ++ (toB 8 (N / 18446744073709551616 / 18446744073709551616) ++ toB 8 (N / 18446744073709551616 / 18446744073709551616 / 18446744073709551616))) := by
    rw [show (32 : Nat) = 8 + (8 + (8 + 8)) from rfl, toB_add, toB_add, toB_add]
    rfl
  simp only [outV, can1]
  rw [e, ← word_bytes N, ← word_bytes (N / _), ← word_bytes (N / _ / _), ← word_bytes (N / _ / _ / _)]
  rfl

theorem run28 (a b : List Int) : runX (cxF [(53, belowC)]) no 100 Tryd.f28 (body Tryd.f28) (can l2 [.l a, .l b]) gmT = (belT a fun a => belT b fun b => .ret (.bool (a == b))) := by kernel_rfl
theorem fn28 : FnOk Tryd.prog GT 28 sameC := by
  refine fnOk_ct (cxT_ok (fns := [(53, belowC)]) ⟨fn53, trivial⟩) gT Tryd.func28 (c := body Tryd.f28) (by kernel_rfl) (enters_of Tryd.func28 (by kernel_rfl) (by kernel_rfl)) (bl := no) (fuel := 100) noBlT ?_
  intro xs hfit hp
  obtain ⟨a, b, rfl, ha, hb⟩ := fit_l2 hfit
  obtain ⟨u1, u2⟩ := hp
  refine ⟨by simp [fit, fit1], ?_⟩
  rw [run28]
  simp only [belT, T.good]
  refine ⟨u1, u2, ?_⟩
  rw [toLP_inj]
  rfl
theorem run30 (a : List Int) : runX (cxF [(53, belowC)]) no 100 Tryd.f30 (body Tryd.f30) (can l1 [.l a]) gmT = (belT a fun a => .ret (.bool ((a.getD 0 0).tmod 2 == 1))) := by kernel_rfl
theorem fn30 : FnOk Tryd.prog GT 30 oddC := by
  refine fnOk_ct (cxT_ok (fns := [(53, belowC)]) ⟨fn53, trivial⟩) gT Tryd.func30 (c := body Tryd.f30) (by kernel_rfl) (enters_of Tryd.func30 (by kernel_rfl) (by kernel_rfl)) (bl := no) (fuel := 100) noBlT ?_
  intro xs hfit hp
  obtain ⟨a, rfl, ha⟩ := fit_l1 hfit
  have u1 : U64 a := hp
  refine ⟨by simp [fit, fit1], ?_⟩
  rw [run30]
  simp only [belT, T.good]
  refine ⟨u1, ?_⟩
  simp only [toL, List.getD_cons_zero, outV, can1]
  rw [Int.tmod_eq_emod_of_nonneg (by omega)]
  congr 1
  rw [show val a % P25 % 18446744073709551616 % 2 = val a % P25 % 2 by omega]
  by_cases h : val a % P25 % 2 = 1
  · rw [h]; rfl
  · rw [decide_eq_false h]; exact beq_eq_false_iff_ne.2 h
end Go.Proofs.YtdmphnfpcblfnaaDoor
