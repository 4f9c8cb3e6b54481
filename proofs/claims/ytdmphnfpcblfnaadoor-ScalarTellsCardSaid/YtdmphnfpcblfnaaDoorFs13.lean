import Derived.Test.YtdmphnfpcblfnaaDoorFs11
import Derived.Test.YtdmphnfpcblfnaaDoorNtC
/- The field's numbers: what Inv and Root are, by Fermat's theorem. -/
namespace Go.Proofs.YtdmphnfpcblfnaaDoor
open Go Go.Sx
set_option maxRecDepth 100000

def Pn : Nat := 57896044618658097711785492504343953926634992332820282019728792003956564819949
theorem Pn_prime : Nt.Prime Pn := Nt.pr57896044618658097711785492504343953926634992332820282019728792003956564819949
instance : NeZero Pn := ⟨by decide +kernel⟩
theorem Pn_cast : (Pn : Int) = P25 := by decide +kernel
/-- A number's class. -/
def fp (x : Int) : Fin Pn := Nt.toF Pn x
theorem fp_eq {x y : Int} : fp x = fp y ↔ x % P25 = y % P25 := by
  unfold fp; rw [Nt.toF_eq, Pn_cast]
theorem fp_mod (x : Int) : fp (x % P25) = fp x := by
  unfold fp; rw [← Pn_cast]; exact Nt.toF_mod Pn x
theorem fp_add (x y : Int) : fp (x + y) = fp x + fp y := Nt.toF_add Pn x y
theorem fp_mul (x y : Int) : fp (x * y) = fp x * fp y := Nt.toF_mul Pn x y
theorem fp_neg (x : Int) : fp (-x) = -fp x := Nt.toF_neg Pn x
theorem fp_sub (x y : Int) : fp (x - y) = fp x - fp y := Nt.toF_sub Pn x y
theorem fp_pow (x : Int) (k : Nat) : fp (x ^ k) = fp x ^ k := Nt.toF_pow Pn x k
theorem fp_zero : fp 0 = 0 := Nt.toF_zero Pn
theorem fp_one : fp 1 = 1 := Nt.toF_one Pn
theorem fp_val (x : Int) : ((fp x).val : Int) = x % P25 := by
  unfold fp; rw [Nt.toF_val, Pn_cast]
theorem fp_zero_iff {x : Int} : fp x = 0 ↔ x % P25 = 0 := by
  rw [← fp_zero, fp_eq]; simp

theorem Pn_two : Pn - 2 = 57896044618658097711785492504343953926634992332820282019728792003956564819947 := by decide +kernel
theorem fp_inv (x : Int) : fp (x ^ 57896044618658097711785492504343953926634992332820282019728792003956564819947 % P25) = Nt.inv (fp x) := by
  rw [fp_mod, fp_pow]; unfold Nt.inv; rw [Pn_two]

def rootm : Fin Pn := fp (val [2, 0, 0, 0] ^ (val quarterL).toNat % P25)
theorem rootm_sq : rootm * rootm = -1 := by
  unfold rootm
  rw [pwQ, ← fp_mul, ← fp_one, ← fp_neg, fp_eq]
  decide +kernel

theorem Pn8 : Pn = 8 * ((val eighthL).toNat - 1) + 5 := by decide +kernel
theorem eighth_pos : (val eighthL).toNat = ((val eighthL).toNat - 1) + 1 := by decide +kernel
theorem Pn_odd : P25 % 2 = 1 := by decide +kernel

theorem fp_qP (U V : Int) : fp (qP U V) = (fp U * Nt.inv (fp V)) ^ ((val eighthL).toNat - 1 + 1) := by
  unfold qP
  rw [fp_mod, fp_pow, fp_mod, fp_mul, fp_inv, ← eighth_pos]

theorem chkP_iff (U V r : Int) : chkP U V r ↔ fp V * (fp r * fp r) = fp U := by
  unfold chkP
  rw [← fp_mul, ← fp_mod (r * r), ← fp_mul, fp_eq, Int.emod_emod_of_dvd _ (Int.dvd_refl P25)]

theorem neg_emod {r : Int} (h0 : 0 < r) (h1 : r < P25) : (-r) % P25 = P25 - r := by
  rw [show -r = P25 - r + P25 * (-1) by rw [Int.mul_neg, Int.mul_one]; omega, Int.add_mul_emod_self_left]
  exact Int.emod_eq_of_lt (by omega) (by omega)
theorem neg_mod_even {r : Int} (h0 : 0 ≤ r) (h1 : r < P25) (h : r % P25 % 2 = 1) : 0 ≤ (-r) % P25 ∧ (-r) % P25 < P25 ∧ (-r) % P25 % 2 = 0 := by
  rw [Int.emod_eq_of_lt h0 h1] at h
  have hr : 0 < r := by omega
  rw [neg_emod hr h1]
  have := Pn_odd
  generalize P25 = p at *
  omega

theorem endP_spec (U V r : Int) (h0 : 0 ≤ r) (h1 : r < P25) :
    (0 ≤ (endP U V r).1 ∧ (endP U V r).1 < P25 ∧ (endP U V r).1 % 2 = 0) ∧
    ((chkP U V r ∧ (endP U V r).2 = true ∧ fp V * (fp (endP U V r).1 * fp (endP U V r).1) = fp U ∧ (fp (endP U V r).1 = fp r ∨ fp (endP U V r).1 = -fp r)) ∨ (¬ chkP U V r ∧ (endP U V r).2 = false ∧ (endP U V r).1 = 0)) := by
  unfold endP
  by_cases hc : chkP U V r
  · rw [if_pos hc]
    have hq := (chkP_iff U V r).1 hc
    by_cases ho : r % P25 % 2 = 1
    · rw [if_pos ho]
      refine ⟨neg_mod_even h0 h1 ho, .inl ⟨hc, rfl, ?_, .inr ?_⟩⟩
      · rw [fp_mod, fp_neg, ← hq]; grind
      · rw [fp_mod, fp_neg]
    · rw [if_neg ho]
      refine ⟨⟨h0, h1, ?_⟩, .inl ⟨hc, rfl, hq, .inl rfl⟩⟩
      rw [Int.emod_eq_of_lt h0 h1] at ho
      clear hq hc
      omega
  · rw [if_neg hc]
    exact ⟨⟨by decide, by decide, by decide⟩, .inr ⟨hc, rfl, rfl⟩⟩

/-- **The root: even; its square, times v, is u; none, if none is.** -/
theorem rootP_spec (U V : Int) : (0 ≤ (rootP U V).1 ∧ (rootP U V).1 < P25 ∧ (rootP U V).1 % 2 = 0) ∧
    (((rootP U V).2 = true ∧ fp V * (fp (rootP U V).1 * fp (rootP U V).1) = fp U) ∨ ((rootP U V).2 = false ∧ (rootP U V).1 = 0 ∧ ∀ t, fp V * (t * t) ≠ fp U)) ∧
    (fp V = 0 → (rootP U V).1 = 0) := by
  have halt := Nt.root_alt Pn_prime Pn8 rootm rootm_sq (fp U) (fp V) (fp (qP U V)) (fp_qP U V)
  have q0 : 0 ≤ qP U V ∧ qP U V < P25 := by unfold qP; exact modP _
  have s0 : 0 ≤ qP U V * (val [2, 0, 0, 0] ^ (val quarterL).toNat % P25) % P25 ∧ qP U V * (val [2, 0, 0, 0] ^ (val quarterL).toNat % P25) % P25 < P25 := modP _
  have hs : fp (qP U V * (val [2, 0, 0, 0] ^ (val quarterL).toNat % P25) % P25) = fp (qP U V) * rootm := by rw [fp_mod, fp_mul]; rfl
  have e1 := endP_spec U V _ q0.1 q0.2
  have e2 := endP_spec U V _ s0.1 s0.2
  have hzero : ∀ r : Int, 0 ≤ r → r < P25 → fp r = 0 → r = 0 := fun r h0 h1 h => by
    have := fp_zero_iff.1 h
    rw [Int.emod_eq_of_lt h0 h1] at this; exact this
  have hv0 : fp V = 0 → fp (qP U V) = 0 := fun h => by
    rw [fp_qP, h, Nt.inv_zero (by decide +kernel), Nt.powS]; grind
  unfold rootP
  by_cases hc : chkP U V (qP U V)
  · rw [if_pos hc]
    refine ⟨e1.1, ?_, fun h => ?_⟩
    · rcases e1.2 with ⟨-, h1, h2, -⟩ | ⟨h1, -⟩
      · exact .inl ⟨h1, h2⟩
      · exact absurd hc h1
    · rcases e1.2 with ⟨-, -, -, h2⟩ | ⟨h1, -⟩
      · refine hzero _ e1.1.1 e1.1.2.1 ?_
        rw [hv0 h] at h2
        rcases h2 with h2 | h2 <;> rw [h2]
        grind
      · exact absurd hc h1
  · rw [if_neg hc]
    refine ⟨e2.1, ?_, fun h => ?_⟩
    · rcases e2.2 with ⟨-, h1, h2, -⟩ | ⟨h1, h2, h3⟩
      · exact .inl ⟨h1, h2⟩
      · refine .inr ⟨h2, h3, ?_⟩
        rcases halt with h | h | h
        · exact absurd ((chkP_iff U V _).2 h) hc
        · refine absurd ((chkP_iff U V _).2 ?_) h1
          rw [hs]; exact h
        · exact h
    · rcases e2.2 with ⟨-, -, -, h2⟩ | ⟨-, -, h3⟩
      · refine hzero _ e2.1.1 e2.1.2.1 ?_
        rw [hs, hv0 h] at h2
        rcases h2 with h2 | h2 <;> rw [h2] <;> grind
      · exact h3

/-- Two even numbers of one square are one. -/
theorem even_unique {x y : Int} (hx0 : 0 ≤ x) (hx1 : x < P25) (hx2 : x % 2 = 0) (hy0 : 0 ≤ y) (hy1 : y < P25) (hy2 : y % 2 = 0) (h : fp x * fp x = fp y * fp y) : x = y := by
  rcases Nt.sq_eq Pn_prime _ _ h with h | h
  · have := fp_eq.1 h
    rwa [Int.emod_eq_of_lt hx0 hx1, Int.emod_eq_of_lt hy0 hy1] at this
  · rw [← fp_neg] at h
    have := fp_eq.1 h
    rw [Int.emod_eq_of_lt hx0 hx1] at this
    rcases Int.lt_or_eq_of_le hy0 with hy | hy
    · rw [neg_emod hy hy1] at this
      have hodd := Pn_odd
      generalize P25 = p at *
      omega
    · subst hy
      simpa using this
end Go.Proofs.YtdmphnfpcblfnaaDoor
