import Derived.Test.YtdmphnfpcblfnaaDoorFs9
namespace Go.Proofs.YtdmphnfpcblfnaaDoor
open Go Go.Sx
set_option maxRecDepth 100000

/-- A power modulo P, by bits. -/
def pm (a : Int) : Nat → Nat → Int
  | 0, _ => 1
  | f + 1, e => match Nat.beq e 0 with
    | true => 1
    | false => match Nat.beq (e % 2) 1 with
      | true => pm a f (e / 2) * pm a f (e / 2) % P25 * a % P25
      | false => pm a f (e / 2) * pm a f (e / 2) % P25

theorem pm_eq (a : Int) : ∀ (f e : Nat), e < 2 ^ f → pm a f e % P25 = a ^ e % P25
  | 0, e, h => by
    have : e = 0 := by simp at h; exact h
    subst this; simp [pm]
  | f + 1, e, h => by
    have ih := pm_eq a f (e / 2) (by rw [Nat.pow_succ] at h; omega)
    have hsq : pm a f (e / 2) * pm a f (e / 2) % P25 = a ^ (2 * (e / 2)) % P25 := by
      rw [Int.mul_emod, ih, ← Int.mul_emod, ← Int.pow_add]; congr 2; omega
    unfold pm
    split
    · rename_i h0; have := Nat.eq_of_beq_eq_true h0; subst this; simp
    · split
      · rename_i h1
        have h1 := Nat.eq_of_beq_eq_true h1
        rw [Int.emod_emod_of_dvd _ (Int.dvd_refl P25), Int.mul_emod, Int.emod_emod_of_dvd _ (Int.dvd_refl P25), hsq, ← Int.mul_emod, ← Int.pow_succ]
        congr 2; omega
      · rename_i h1
        have h1 : ¬ e % 2 = 1 := fun hc => by rw [hc] at h1; simp at h1
        rw [Int.emod_emod_of_dvd _ (Int.dvd_refl P25), hsq]
        congr 2; omega

abbrev halfC : List SV → T SV := ct [] (fun _ => True) [i4] (fun _ => [.l [18446744073709551607, 18446744073709551615, 18446744073709551615, 4611686018427387903]])
theorem run50 : runX (cxF []) no 100 Tryd.f50 (body Tryd.f50) (can [] []) gmF = .ret (.ints .u64 4 [18446744073709551607, 18446744073709551615, 18446744073709551615, 4611686018427387903]) := by kernel_rfl
theorem fn50 : FnOk Tryd.prog GF 50 halfC := by
  refine fnOk_ct (cxF_ok (fns := []) trivial) gF Tryd.func50 (c := body Tryd.f50) (by kernel_rfl) (enters_of Tryd.func50 (by kernel_rfl) (by kernel_rfl)) (bl := no) (fuel := 100) noBl ?_
  intro xs hfit hp
  have : xs = [] := by cases xs with
    | nil => rfl
    | cons x l => exact hfit.elim
  subst this
  refine ⟨by simp [fit, fit1], ?_⟩
  rw [run50]
  rfl
end Go.Proofs.YtdmphnfpcblfnaaDoor
