import Derived.Test.YtdmphnfpcblfnaaDoorFsS1
import Derived.Test.YtdmphnfpcblfnaaDoorFs14
/- The document's answer for the field: its small functions. -/
namespace Go.Proofs.YtdmphnfpcblfnaaDoor
open Go Go.Sx
set_option maxRecDepth 100000

theorem run59 : runX (cxF []) no 100 Tryd.f59 (body Tryd.f59) [] gmT = .ret (.ints .u64 4 primeL) := by kernel_rfl
abbrev primeC : List SV → T SV := ct [] (fun _ => True) [i4] (fun _ => [.l primeL])
theorem fn59 : FnOk Tryd.prog GT 59 primeC := by
  refine fnOk_ct (cxT_ok (fns := []) trivial) gT Tryd.func59 (c := body Tryd.f59) (by kernel_rfl) (enters_of Tryd.func59 (by kernel_rfl) (by kernel_rfl)) (bl := no) (fuel := 100) noBlT ?_
  intro xs hfit hp
  obtain rfl := fit_0 hfit
  refine ⟨by simp [fit, fit1, primeL], ?_⟩
  rw [show can [] [] = [] from rfl, run59]
  rfl

theorem run73 (a0 a1 a2 a3 b0 b1 b2 b3 : Int) : runX (cxF []) no 100 Tryd.f73 (body Tryd.f73) (can l2 [.l [a0, a1, a2, a3], .l [b0, b1, b2, b3]]) gmT =
  .ite (a3 != b3) (.ret (.bool (decide (a3 < b3)))) (.ite (a2 != b2) (.ret (.bool (decide (a2 < b2)))) (.ite (a1 != b1) (.ret (.bool (decide (a1 < b1)))) (.ite (a0 != b0) (.ret (.bool (decide (a0 < b0)))) (.ret .ff)))) := by kernel_rfl
abbrev lessC : List SV → T SV := ct l2 preU2 [.bool] (fun | [.l a, .l b] => [.b (decide (val a < val b))] | _ => [])
theorem fn73 : FnOk Tryd.prog GT 73 lessC := by
  refine fnOk_gd (cxT_ok (fns := []) trivial) gT Tryd.func73 (c := body Tryd.f73) (by kernel_rfl) (enters_of Tryd.func73 (by kernel_rfl) (by kernel_rfl)) (fuel := 100) ?_
  intro xs hfit hp
  obtain ⟨a, b, rfl, ha, hb⟩ := fit_l2 hfit
  obtain ⟨a0, a1, a2, a3, rfl⟩ := len4 ha
  obtain ⟨b0, b1, b2, b3, rfl⟩ := len4 hb
  obtain ⟨u1, u2⟩ := hp
  have hq := u64_4.1 u1
  have hr := u64_4.1 u2
  refine ⟨no, noBlT, by simp [fit, fit1], Gd.of_eq (run73 a0 a1 a2 a3 b0 b1 b2 b3) ⟨?_⟩⟩
  have den (p q : Prop) [Decidable p] [Decidable q] (h : p ↔ q) : ∀ ρ, (SV.bool (decide p)).den ρ = (outV [.bool] [.b (decide q)]).den ρ := fun ρ => by rw [decide_eq_decide.2 h]; rfl
  simp only [T.good, bne_iff_ne, ne_eq, bne_eq_false_iff_eq]
  refine ⟨fun h => den _ _ (by simp only [val]; omega), fun e => ⟨fun h => den _ _ (by simp only [val]; omega), fun e2 => ⟨fun h => den _ _ (by simp only [val]; omega), fun e3 => ⟨fun h => den _ _ (by simp only [val]; omega), fun e4 => ?_⟩⟩⟩⟩
  intro ρ
  subst e; subst e2; subst e3; subst e4
  simp [SV.den, outV, can1]

def c01 : Bool → Int
  | true => 1
  | false => 0
def bstepR (x y : Int) (c : Bool) (k : Int → Bool → T SV) : T SV :=
  .ite (decide (x < y)) (k (IntKind.u64.wrap (IntKind.u64.wrap (x - y) - c01 c)) true) (.ite (x == y) (k (IntKind.u64.wrap (IntKind.u64.wrap (x - y) - c01 c)) c) (k (IntKind.u64.wrap (IntKind.u64.wrap (x - y) - c01 c)) false))
theorem run58 (a0 a1 a2 a3 b0 b1 b2 b3 : Int) : runX (cxF []) no 100 Tryd.f58 (body Tryd.f58) (can l2 [.l [a0, a1, a2, a3], .l [b0, b1, b2, b3]]) gmT =
  bstepR a0 b0 false fun r0 c => bstepR a1 b1 c fun r1 c => bstepR a2 b2 c fun r2 c => bstepR a3 b3 c fun r3 _ => .ret (.ints .u64 4 [r0, r1, r2, r3]) := by kernel_rfl

theorem c01_eq (c : Bool) : c01 c = if c = true then 1 else 0 := by cases c <;> rfl
theorem bstepR_good {x y : Int} {c : Bool} {k : Int → Bool → T SV} {Q : SV → Prop} (_ : 0 ≤ x ∧ x < 18446744073709551616) (hy : 0 ≤ y ∧ y < 18446744073709551616)
    (h : (k ((x - y - c01 c) % 18446744073709551616) (decide (x < y + c01 c))).good Q) : (bstepR x y c k).good Q := by
  have e : IntKind.u64.wrap (IntKind.u64.wrap (x - y) - c01 c) = (x - y - c01 c) % 18446744073709551616 := by
    simp only [wrap_u64]; cases c <;> simp only [c01] <;> omega
  unfold bstepR
  rw [e]
  simp only [T.good, decide_eq_true_eq, decide_eq_false_iff_not, beq_iff_eq, beq_eq_false_iff_ne, ne_eq]
  refine ⟨fun h1 => ?_, fun h1 => ⟨fun h2 => ?_, fun h2 => ?_⟩⟩
  · rwa [decide_eq_true (show x < y + c01 c by cases c <;> simp only [c01] <;> omega)] at h
  · subst h2
    cases c with
    | true => rwa [decide_eq_true (show x < x + c01 true by simp only [c01]; omega)] at h
    | false => rwa [decide_eq_false (show ¬ x < x + c01 false by simp only [c01]; omega)] at h
  · rwa [decide_eq_false (show ¬ x < y + c01 c by cases c <;> simp only [c01] <;> omega)] at h

theorem c01_dec (p : Prop) [Decidable p] : c01 (decide p) = if p then 1 else 0 := by
  by_cases h : p
  · rw [decide_eq_true h, if_pos h]; rfl
  · rw [decide_eq_false h, if_neg h]; rfl

abbrev takeC : List SV → T SV := ct l2 preU2 [i4] (fun | [.l a, .l b] => [.l (toL 4 (val a - val b))] | _ => [])
theorem fn58 : FnOk Tryd.prog GT 58 takeC := by
  refine fnOk_gd (cxT_ok (fns := []) trivial) gT Tryd.func58 (c := body Tryd.f58) (by kernel_rfl) (enters_of Tryd.func58 (by kernel_rfl) (by kernel_rfl)) (fuel := 100) ?_
  intro xs hfit hp
  obtain ⟨a, b, rfl, ha, hb⟩ := fit_l2 hfit
  obtain ⟨a0, a1, a2, a3, rfl⟩ := len4 ha
  obtain ⟨b0, b1, b2, b3, rfl⟩ := len4 hb
  obtain ⟨u1, u2⟩ := hp
  have hq := u64_4.1 u1
  obtain ⟨p0, p1, p2, p3⟩ := hq
  have hr := u64_4.1 u2
  obtain ⟨q0, q1, q2, q3⟩ := hr
  have e := subL_eq 4 [a0, a1, a2, a3] [b0, b1, b2, b3] 0 rfl rfl u1 u2 (by omega) (by omega)
  rw [Int.sub_zero, Int.add_zero] at e
  simp only [subL] at e
  refine ⟨no, noBlT, fit_i4 _, Gd.of_eq (run58 a0 a1 a2 a3 b0 b1 b2 b3) ⟨?_⟩⟩
  refine bstepR_good p0 q0 (bstepR_good p1 q1 (bstepR_good p2 q2 (bstepR_good p3 q3 ?_)))
  intro ρ
  simp only [outV, can1, ← (Prod.mk.inj e).1, c01_dec]
  rfl

/-! ### Least -/
def lessT (a b : List Int) (k : Bool → T SV) : T SV := .need (U64 a ∧ U64 b) (k (decide (val a < val b)))
def takeT (a b : List Int) (k : List Int → T SV) : T SV := .need (U64 a ∧ U64 b) (k (toL 4 (val a - val b)))
def leastM : Nat → List Int → T SV
  | 0, a => lessT a primeL fun b => isT (!b) false (.ret (.ints .u64 4 a))
  | q + 1, a => lessT a primeL fun b => isT (!b) true (takeT a primeL fun r => leastM q r)
noncomputable abbrev fns53 : List (Nat × (List SV → T SV)) := [(59, primeC), (73, lessC), (58, takeC)]
theorem run53_0 (a : List Int) : prune (runX (cxF fns53) no 100 Tryd.f53 (body Tryd.f53) (can l1 [.l a]) gmT) [false] = .need True (leastM 0 a) := by kernel_rfl
theorem run53_1 (a : List Int) : prune (runX (cxF fns53) no 100 Tryd.f53 (body Tryd.f53) (can l1 [.l a]) gmT) [true, false] = .need True (leastM 1 a) := by kernel_rfl
theorem run53_2 (a : List Int) : prune (runX (cxF fns53) no 100 Tryd.f53 (body Tryd.f53) (can l1 [.l a]) gmT) [true, true, false] = .need True (leastM 2 a) := by kernel_rfl
theorem uPrime : U64 primeL := u64_4.2 (by decide)
theorem val_prime : val primeL = P25 := by decide

theorem less_P (a : Int) : (a - P25) % P25 = a % P25 := by
  have := Int.add_mul_emod_self_left (a - P25) P25 1
  rw [Int.mul_one, Int.sub_add_cancel] at this
  exact this.symm
abbrev Q53 (a : List Int) (u : SV) : Prop := ∀ ρ, u.den ρ = (outV [i4] [.l (toL 4 (val a % P25))]).den ρ
theorem least_end (a : List Int) (ua : U64 a) (hl : a.length = 4) (hlt : val a < P25) : (leastM 0 a).good (Q53 a) := by
  have hr := val_range ua
  refine ⟨⟨ua, uPrime⟩, by rw [val_prime, decide_eq_true hlt]; rfl, fun ρ => ?_⟩
  have ht := toL_val ua
  rw [hl] at ht
  rw [Int.emod_eq_of_lt hr.1 hlt, ht]
  rfl
theorem least_more (q : Nat) (a : List Int) (ua : U64 a) (hge : P25 ≤ val a) (hlt : val a < 115792089237316195423570985008687907853269984665640564039457584007913129639936)
    (h : (leastM q (toL 4 (val a - P25))).good (Q53 (toL 4 (val a - P25)))) : (leastM (q + 1) a).good (Q53 a) := by
  have hv : val (toL 4 (val a - P25)) = val a - P25 := by
    rw [val_toL4]
    exact Int.emod_eq_of_lt (by omega) (Int.lt_of_le_of_lt (Int.sub_le_self _ (by decide)) hlt)
  refine ⟨⟨ua, uPrime⟩, by rw [val_prime, decide_eq_false (by omega)]; rfl, ⟨ua, uPrime⟩, ?_⟩
  rw [val_prime]
  refine T.good_mono h fun u hu ρ => ?_
  rw [hu ρ, hv, less_P]

theorem fns53_ok : FnsOk Tryd.prog GT fns53 := ⟨fn59, fn73, fn58, trivial⟩
theorem fn53 : FnOk Tryd.prog GT 53 belowC := by
  refine fnOk_gd (cxT_ok fns53_ok) gT Tryd.func53 (c := body Tryd.f53) (by kernel_rfl) (enters_of Tryd.func53 (by kernel_rfl) (by kernel_rfl)) (fuel := 100) ?_
  intro xs hfit hp
  obtain ⟨a, rfl, ha⟩ := fit_l1 hfit
  have ua : U64 a := hp
  have hr := val4_range ua ha
  have step : ∀ x : List Int, P25 ≤ val x → val x < 115792089237316195423570985008687907853269984665640564039457584007913129639936 → val (toL 4 (val x - P25)) = val x - P25 := fun x h0 h1 => by
    rw [val_toL4]
    exact Int.emod_eq_of_lt (by omega) (Int.lt_of_le_of_lt (Int.sub_le_self _ (by decide)) h1)
  refine ⟨no, noBlT, fit_i4 _, ?_⟩
  by_cases h0 : val a < P25
  · exact Gd.of_run (run53_0 a) ⟨⟨trivial, least_end a ua ha h0⟩⟩
  · have h0 : P25 ≤ val a := by omega
    have e1 := step a h0 hr.2
    by_cases h1 : val a - P25 < P25
    · exact Gd.of_run (run53_1 a) ⟨⟨trivial, least_more 0 a ua h0 hr.2 (least_end _ (toL_u64 _ _) (toL_length _ _) (by rw [e1]; exact h1))⟩⟩
    · have h1 : P25 ≤ val (toL 4 (val a - P25)) := by rw [e1]; omega
      have hr1 : val (toL 4 (val a - P25)) < 115792089237316195423570985008687907853269984665640564039457584007913129639936 := by rw [e1]; exact Int.lt_of_le_of_lt (Int.sub_le_self _ (by decide)) hr.2
      have e2 := step _ h1 hr1
      refine Gd.of_run (run53_2 a) ⟨⟨trivial, least_more 1 a ua h0 hr.2 (least_more 0 _ (toL_u64 _ _) h1 hr1 (least_end _ (toL_u64 _ _) (toL_length _ _) ?_))⟩⟩
      rw [e2, e1]
      have hP : (115792089237316195423570985008687907853269984665640564039457584007913129639936 : Int) < P25 + P25 + P25 := by decide
      have := hr.2
      generalize P25 = p at *
      omega
theorem fn53F : FnOk Tryd.prog GF 53 belowC := fn53.mono fun _ _ => trivial
end Go.Proofs.YtdmphnfpcblfnaaDoor
