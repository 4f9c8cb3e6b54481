import Derived.Test.YtdmphnfpcblfnaaDoorFs12
import Derived.Test.YtdmphnfpcblfnaaDoorFs13
/- FieldInverses, FieldSquares, FieldBack: contracts. -/
namespace Go.Proofs.YtdmphnfpcblfnaaDoor
open Go Go.Sx
set_option maxRecDepth 100000

def isT (b d : Bool) (k : T SV) : T SV := .need (b = d) k
def root2T (u v : List Int) (k : List Int → Bool → T SV) : T SV := .need (U64 u ∧ U64 v) (k (toL 4 (rootP (val u) (val v)).1) (rootP (val u) (val v)).2)
def bytes1T (a : List Int) (k : List Int → T SV) : T SV := .need (U64 a) (k (toB 32 (val a % P25)))
def of1T (b : List Int) (k : List Int → T SV) : T SV := .need (U8 b) (k (toL 4 (bv b % P25)))

/-! ### Comparisons, in classes -/
theorem toL4_beq (x y : Int) : (toL 4 (x % P25) == toL 4 (y % P25)) = decide (fp x = fp y) := by
  rw [toLP_inj]
  exact decide_eq_decide.2 fp_eq.symm
theorem sameP (x y : Int) : decide (x % P25 = y % P25) = decide (fp x = fp y) := decide_eq_decide.2 fp_eq.symm
theorem beq_z4 (x : Int) : (toL 4 (x % P25) == z4) = decide (fp x = 0) := by
  rw [show z4 = toL 4 (0 % P25) by decide +kernel, toL4_beq, fp_zero]
theorem beq_o4 (x : Int) : (toL 4 (x % P25) == o4) = decide (fp x = 1) := by
  rw [show o4 = toL 4 (1 % P25) by decide +kernel, toL4_beq, fp_one]
theorem fp_inv' (x : Int) : fp (x ^ 57896044618658097711785492504343953926634992332820282019728792003956564819947) = Nt.inv (fp x) := by
  rw [← fp_inv, fp_mod]
theorem root_mod (U V : Int) : (rootP U V).1 % P25 = (rootP U V).1 := Int.emod_eq_of_lt (rootP_spec U V).1.1 (rootP_spec U V).1.2.1
theorem val_root (U V : Int) : val (toL 4 (rootP U V).1) = (rootP U V).1 := by rw [← root_mod, val_toLP]
theorem root_beq (U V x : Int) : (toL 4 (rootP U V).1 == toL 4 (x % P25)) = decide (fp (rootP U V).1 = fp x) := by rw [← root_mod, toL4_beq, fp_mod]
theorem den_true {b : Bool} (h : b = true) : ∀ ρ, (SV.bool b).den ρ = (outV [.bool] [.b true]).den ρ := fun ρ => by rw [h]; rfl
theorem den_tt : ∀ ρ, SV.tt.den ρ = (outV [.bool] [.b true]).den ρ := fun _ => rfl

theorem inv_inv (x : Fin Pn) : Nt.inv (Nt.inv x) = x := by
  by_cases h : x = 0
  · rw [h, Nt.inv_zero (by decide +kernel), Nt.inv_zero (by decide +kernel)]
  · have h1 := Nt.mul_inv Pn_prime x h
    have h2 : Nt.inv x ≠ 0 := fun e => by
      rw [e] at h1
      exact Nt.one_ne_zero Pn_prime (by rw [← h1]; grind)
    have h3 := Nt.mul_inv Pn_prime (Nt.inv x) h2
    grind
theorem inv_mul (x y : Fin Pn) : Nt.inv (x * y) = Nt.inv x * Nt.inv y := by
  unfold Nt.inv; exact Nt.mul_pow' x y _

/-! ### FieldInverses -/
def inv7T (z : Bool) (a b : List Int) : T SV :=
  invT a fun x => invT b fun y => sameT a z4 fun za =>
  let K (e : Bool → Bool) : T SV := invT x fun xx => sameT xx a fun s => okT s <| mul2T a b fun ab => invT ab fun i => mul2T x y fun xy => okT (i == xy) <| mul2T a b fun ab => .ret (.bool (e (ab == z4)))
  match z with
  | true => isT za true (K fun m => m == true)
  | false => isT za false (sameT b z4 fun zb => K fun m => m == zb)

noncomputable abbrev fns7 : List (Nat × (List SV → T SV)) := [(33, invC), (27, sameC), (18, mulC), (13, upF)]
theorem run7t (a b : List Int) : prune (runX (cxF fns7) no 100 Tryd.f7 (body Tryd.f7) (can l2 [.l a, .l b]) gmF) (List.replicate 20 true) = inv7T true a b := by kernel_rfl
theorem run7f (a b : List Int) : prune (runX (cxF fns7) no 100 Tryd.f7 (body Tryd.f7) (can l2 [.l a, .l b]) gmF) (false :: List.replicate 20 true) = inv7T false a b := by kernel_rfl

theorem inv7_good (a b : List Int) (u1 : U64 a) (u2 : U64 b) : Gd (inv7T (decide (fp (val a) = 0)) a b) fun u => ∀ ρ, u.den ρ = (outV [.bool] [.b true]).den ρ := by
  refine ⟨?_⟩
  by_cases hz : fp (val a) = 0
  · rw [decide_eq_true hz]
    simp only [inv7T, invT, sameT, mul2T, okT, isT, T.good, val_toLP, val_z4, sameP, toL4_beq, beq_z4, fp_mod, fp_mul, fp_inv', fp_zero]
    refine ⟨u1, u2, ⟨u1, uz4⟩, decide_eq_true hz, ut4 _, ⟨ut4 _, u1⟩, decide_eq_true (inv_inv _), ⟨u1, u2⟩, ut4 _, ⟨ut4 _, ut4 _⟩, decide_eq_true (inv_mul _ _), ⟨u1, u2⟩, den_true ?_⟩
    rw [hz, decide_eq_true (show (0 : Fin Pn) * fp (val b) = 0 by grind)]
    rfl
  · rw [decide_eq_false hz]
    simp only [inv7T, invT, sameT, mul2T, okT, isT, T.good, val_toLP, val_z4, sameP, toL4_beq, beq_z4, fp_mod, fp_mul, fp_inv', fp_zero]
    refine ⟨u1, u2, ⟨u1, uz4⟩, decide_eq_false hz, ⟨u2, uz4⟩, ut4 _, ⟨ut4 _, u1⟩, decide_eq_true (inv_inv _), ⟨u1, u2⟩, ut4 _, ⟨ut4 _, ut4 _⟩, decide_eq_true (inv_mul _ _), ⟨u1, u2⟩, den_true ?_⟩
    rw [beq_iff_eq]
    refine decide_eq_decide.2 ⟨fun h => ?_, fun h => ?_⟩
    · exact (Nt.mul_zero_or Pn_prime _ _ h).resolve_left hz
    · rw [h]; grind

theorem fns7_ok : FnsOk Tryd.prog GF fns7 := ⟨fn33, fn27, fn18, fn13, trivial⟩
abbrev preU2 : List AV → Prop := fun | [.l a, .l b] => U64 a ∧ U64 b | _ => False
theorem fn7 : FnOk Tryd.prog GF 7 (ct l2 preU2 [.bool] (fun _ => [.b true])) := by
  refine fnOk_gd (cxF_ok fns7_ok) gF Tryd.func7 (c := body Tryd.f7) (by kernel_rfl) (enters_of Tryd.func7 (by kernel_rfl) (by kernel_rfl)) (fuel := 100) ?_
  intro xs hfit hp
  obtain ⟨a, b, rfl, ha, hb⟩ := fit_l2 hfit
  obtain ⟨u1, u2⟩ := hp
  have hg := inv7_good a b u1 u2
  by_cases hz : fp (val a) = 0
  · rw [decide_eq_true hz] at hg
    exact ⟨no, noBl, by simp [fit, fit1], Gd.of_run (run7t a b) hg⟩
  · rw [decide_eq_false hz] at hg
    exact ⟨no, noBl, by simp [fit, fit1], Gd.of_run (run7f a b) hg⟩

/-! ### FieldSquares -/
theorem root_sq (U : Int) : (rootP U 1).2 = true ↔ Nt.Sq (fp U) := by
  obtain ⟨-, h, -⟩ := rootP_spec U 1
  rw [fp_one] at h
  constructor
  · intro h1
    rcases h with ⟨-, h⟩ | ⟨h, -⟩
    · exact ⟨fp (rootP U 1).1, by rw [← h]; grind⟩
    · rw [h1] at h; cases h
  · rintro ⟨t, ht⟩
    rcases h with ⟨h, -⟩ | ⟨-, -, h⟩
    · exact h
    · exact absurd (by rw [← ht]; grind) (h t)
theorem root_sq' (U : Int) (h : (rootP U 1).2 = true) : fp (rootP U 1).1 * fp (rootP U 1).1 = fp U := by
  obtain ⟨-, h1, -⟩ := rootP_spec U 1
  rcases h1 with ⟨-, h1⟩ | ⟨h1, -⟩
  · rw [← h1, fp_one]; grind
  · rw [h] at h1; cases h1

def sq8T (c : Nat) (d : Bool) (a b : List Int) : T SV :=
  root2T a o4 fun _ p => root2T b o4 fun _ q => mul2T a b fun ab => root2T ab o4 fun x both => sameT a z4 fun za =>
  let tail : T SV := match d with
    | true => isT (!both) true (.ret .tt)
    | false => isT (!both) false (mul2T x x fun xx => mul2T a b fun ab => sameT xx ab fun s => .ret (.bool s))
  match c with
  | 0 => isT za true (isT (both == true) true tail)
  | 1 => isT za false (sameT b z4 fun zb => isT zb true (isT (both == true) true tail))
  | _ => isT za false (sameT b z4 fun zb => isT zb false (isT (both == (p == q)) true tail))

noncomputable abbrev fns8 : List (Nat × (List SV → T SV)) := [(31, rootC), (18, mulC), (27, sameC), (13, upF)]
theorem run8a (a b : List Int) : prune (runX (cxF fns8) no 100 Tryd.f8 (body Tryd.f8) (can l2 [.l a, .l b]) gmF) [true, true, false] = sq8T 0 false a b := by kernel_rfl
theorem run8b (a b : List Int) : prune (runX (cxF fns8) no 100 Tryd.f8 (body Tryd.f8) (can l2 [.l a, .l b]) gmF) [false, true, true, false] = sq8T 1 false a b := by kernel_rfl
theorem run8c (a b : List Int) : prune (runX (cxF fns8) no 100 Tryd.f8 (body Tryd.f8) (can l2 [.l a, .l b]) gmF) [false, false, true, false] = sq8T 2 false a b := by kernel_rfl
theorem run8d (a b : List Int) : prune (runX (cxF fns8) no 100 Tryd.f8 (body Tryd.f8) (can l2 [.l a, .l b]) gmF) [false, false, true, true] = sq8T 2 true a b := by kernel_rfl

theorem sq_both (A B : Int) (h1 : fp A ≠ 0) (h2 : fp B ≠ 0) : (rootP (A * B % P25) 1).2 = ((rootP A 1).2 == (rootP B 1).2) := by
  have e := root_sq (A * B % P25)
  rw [fp_mod, fp_mul] at e
  have ea := root_sq A
  have eb := root_sq B
  have comm : fp A * fp B = fp B * fp A := by grind
  cases ha : (rootP A 1).2 <;> cases hb : (rootP B 1).2 <;> rw [ha] at ea <;> rw [hb] at eb
  · exact e.2 (Nt.not_sq_mul Pn_prime Pn8 rootm rootm_sq _ _ (fun h => by cases ea.2 h) (fun h => by cases eb.2 h))
  · cases hc : (rootP (A * B % P25) 1).2 with
    | false => rfl
    | true =>
      have := e.1 hc
      rw [comm] at this
      exact absurd (ea.2 (Nt.Sq.div Pn_prime _ _ h2 (eb.1 rfl) this)) (by simp)
  · cases hc : (rootP (A * B % P25) 1).2 with
    | false => rfl
    | true => exact absurd (eb.2 (Nt.Sq.div Pn_prime _ _ h1 (ea.1 rfl) (e.1 hc))) (by simp)
  · exact e.2 (Nt.Sq.mul _ _ (ea.1 rfl) (eb.1 rfl))

theorem sq8_tail (a b : List Int) (u1 : U64 a) (u2 : U64 b) (hb : (rootP (val a * val b % P25) 1).2 = true) :
    (isT (!(rootP (val a * val b % P25) 1).2) false (mul2T (toL 4 (rootP (val a * val b % P25) 1).1) (toL 4 (rootP (val a * val b % P25) 1).1) fun xx => mul2T a b fun ab => sameT xx ab fun s => .ret (.bool s))).good fun u => ∀ ρ, u.den ρ = (outV [.bool] [.b true]).den ρ := by
  simp only [isT, mul2T, sameT, T.good, val_toLP, val_root, sameP, fp_mod, fp_mul]
  refine ⟨by rw [hb]; rfl, ⟨ut4 _, ut4 _⟩, ⟨u1, u2⟩, ⟨ut4 _, ut4 _⟩, den_true (decide_eq_true ?_)⟩
  rw [root_sq' _ hb, fp_mod, fp_mul]

theorem sq8_good (a b : List Int) (u1 : U64 a) (u2 : U64 b) (c : Nat) (d : Bool)
    (h : (c = 0 ∧ d = false ∧ fp (val a) = 0) ∨ (c = 1 ∧ d = false ∧ fp (val a) ≠ 0 ∧ fp (val b) = 0) ∨ (c = 2 ∧ fp (val a) ≠ 0 ∧ fp (val b) ≠ 0 ∧ d = !(rootP (val a * val b % P25) 1).2)) :
    Gd (sq8T c d a b) fun u => ∀ ρ, u.den ρ = (outV [.bool] [.b true]).den ρ := by
  refine ⟨?_⟩
  have sq0 : fp (val a * val b) = 0 → (rootP (val a * val b % P25) 1).2 = true := fun h => (root_sq _).2 (by rw [fp_mod, h]; exact ⟨0, by grind⟩)
  rcases h with ⟨rfl, rfl, hz⟩ | ⟨rfl, rfl, hz, hz2⟩ | ⟨rfl, hz, hz2, rfl⟩
  · have hb := sq0 (by rw [fp_mul, hz]; grind)
    have ht := sq8_tail a b u1 u2 hb
    simp only [sq8T, root2T, mul2T, T.good, val_o4, val_toLP]
    refine ⟨⟨u1, uo4⟩, ⟨u2, uo4⟩, ⟨u1, u2⟩, ⟨ut4 _, uo4⟩, ?_⟩
    simp only [sameT, isT, T.good, val_z4, sameP, fp_zero] at *
    exact ⟨⟨u1, uz4⟩, decide_eq_true hz, by rw [hb]; rfl, ht⟩
  · have hb := sq0 (by rw [fp_mul, hz2]; grind)
    have ht := sq8_tail a b u1 u2 hb
    simp only [sq8T, root2T, mul2T, T.good, val_o4, val_toLP]
    refine ⟨⟨u1, uo4⟩, ⟨u2, uo4⟩, ⟨u1, u2⟩, ⟨ut4 _, uo4⟩, ?_⟩
    simp only [sameT, isT, T.good, val_z4, sameP, fp_zero] at *
    exact ⟨⟨u1, uz4⟩, decide_eq_false hz, ⟨u2, uz4⟩, decide_eq_true hz2, by rw [hb]; rfl, ht⟩
  · have he := sq_both _ _ hz hz2
    cases hb : (rootP (val a * val b % P25) 1).2 with
    | true =>
      have ht := sq8_tail a b u1 u2 hb
      simp only [sq8T, root2T, mul2T, T.good, val_o4, val_toLP, Bool.not_true]
      refine ⟨⟨u1, uo4⟩, ⟨u2, uo4⟩, ⟨u1, u2⟩, ⟨ut4 _, uo4⟩, ?_⟩
      simp only [sameT, isT, T.good, val_z4, sameP, fp_zero] at *
      exact ⟨⟨u1, uz4⟩, decide_eq_false hz, ⟨u2, uz4⟩, decide_eq_false hz2, by rw [← he]; exact beq_self_eq_true _, ht⟩
    | false =>
      simp only [sq8T, root2T, mul2T, T.good, val_o4, val_toLP, Bool.not_false]
      refine ⟨⟨u1, uo4⟩, ⟨u2, uo4⟩, ⟨u1, u2⟩, ⟨ut4 _, uo4⟩, ?_⟩
      simp only [sameT, isT, T.good, val_z4, sameP, fp_zero] at *
      exact ⟨⟨u1, uz4⟩, decide_eq_false hz, ⟨u2, uz4⟩, decide_eq_false hz2, by rw [← he]; exact beq_self_eq_true _, by rw [hb]; rfl, den_tt⟩

theorem fns8_ok : FnsOk Tryd.prog GF fns8 := ⟨fn31, fn18, fn27, fn13, trivial⟩
theorem fn8 : FnOk Tryd.prog GF 8 (ct l2 preU2 [.bool] (fun _ => [.b true])) := by
  refine fnOk_gd (cxF_ok fns8_ok) gF Tryd.func8 (c := body Tryd.f8) (by kernel_rfl) (enters_of Tryd.func8 (by kernel_rfl) (by kernel_rfl)) (fuel := 100) ?_
  intro xs hfit hp
  obtain ⟨a, b, rfl, ha, hb⟩ := fit_l2 hfit
  obtain ⟨u1, u2⟩ := hp
  by_cases hz : fp (val a) = 0
  · exact ⟨no, noBl, by simp [fit, fit1], Gd.of_run (run8a a b) (sq8_good a b u1 u2 0 false (.inl ⟨rfl, rfl, hz⟩))⟩
  · by_cases hz2 : fp (val b) = 0
    · exact ⟨no, noBl, by simp [fit, fit1], Gd.of_run (run8b a b) (sq8_good a b u1 u2 1 false (.inr (.inl ⟨rfl, rfl, hz, hz2⟩)))⟩
    · cases hb : (rootP (val a * val b % P25) 1).2 with
      | true => exact ⟨no, noBl, by simp [fit, fit1], Gd.of_run (run8c a b) (sq8_good a b u1 u2 2 false (.inr (.inr ⟨rfl, hz, hz2, by rw [hb]; rfl⟩)))⟩
      | false => exact ⟨no, noBl, by simp [fit, fit1], Gd.of_run (run8d a b) (sq8_good a b u1 u2 2 true (.inr (.inr ⟨rfl, hz, hz2, by rw [hb]; rfl⟩)))⟩
end Go.Proofs.YtdmphnfpcblfnaaDoor
