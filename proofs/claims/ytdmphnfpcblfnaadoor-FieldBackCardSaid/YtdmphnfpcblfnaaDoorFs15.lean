import Derived.Test.YtdmphnfpcblfnaaDoorFs14
/- FieldBack: its contract. -/
namespace Go.Proofs.YtdmphnfpcblfnaaDoor
open Go Go.Sx
set_option maxRecDepth 100000

def back6T (z : Bool) (r : Nat) (a v : List Int) : T SV :=
  sameT a z4 fun zero => invT a fun ia => mul2T a ia fun one => mul2T a a fun aa => mul2T v aa fun u => root2T u v fun x ok => sameT v z4 fun v0 =>
  let K3 : T SV := oddT x fun o => isT (!o) true (bytes1T a fun bs => of1T bs fun n => add2T a z4 fun a0 => isT (n == a0) true (match z with
    | true => isT zero true (.ret .tt)
    | false => isT zero false (oddT a fun oa => neg1T a fun na => oddT na fun on => .ret (.bool (oa != on)))))
  let K2 (rt : Option Bool) : T SV := isT ok true (match rt with
    | none => K3
    | some b => isT b true K3)
  let K (rt : Option Bool) : T SV := match z with
    | true => isT zero true (isT (one == z4) true (K2 rt))
    | false => isT zero false (isT (!zero) true (isT (one == o4) true (K2 rt)))
  match r with
  | 0 => isT v0 true (K none)
  | 1 => isT v0 false (add2T a z4 fun a0 => isT (x == a0) true (K none))
  | _ => isT v0 false (add2T a z4 fun a0 => isT (x == a0) false (neg1T a fun na => K (some (x == na))))

noncomputable abbrev fns6 : List (Nat × (List SV → T SV)) := [(27, sameC), (33, invC), (18, mulC), (31, rootC), (14, addC), (20, negC), (29, oddC), (24, bytesC), (22, ofC), (13, upF)]
theorem run6t0 (a v : List Int) : prune (runX (cxF fns6) no 100 Tryd.f6 (body Tryd.f6) (can l2 [.l a, .l v]) gmF) [true, true, true, true, true, true, true] = back6T true 0 a v := by kernel_rfl
theorem run6t1 (a v : List Int) : prune (runX (cxF fns6) no 100 Tryd.f6 (body Tryd.f6) (can l2 [.l a, .l v]) gmF) [false, true, true, true, true, true, true, true] = back6T true 1 a v := by kernel_rfl
theorem run6t2 (a v : List Int) : prune (runX (cxF fns6) no 100 Tryd.f6 (body Tryd.f6) (can l2 [.l a, .l v]) gmF) [false, false, true, true, true, true, true, true, true] = back6T true 2 a v := by kernel_rfl
theorem run6f0 (a v : List Int) : prune (runX (cxF fns6) no 100 Tryd.f6 (body Tryd.f6) (can l2 [.l a, .l v]) gmF) [true, false, true, true, true, true, true, false] = back6T false 0 a v := by kernel_rfl
theorem run6f1 (a v : List Int) : prune (runX (cxF fns6) no 100 Tryd.f6 (body Tryd.f6) (can l2 [.l a, .l v]) gmF) [false, true, false, true, true, true, true, true, false] = back6T false 1 a v := by kernel_rfl
theorem run6f2 (a v : List Int) : prune (runX (cxF fns6) no 100 Tryd.f6 (body Tryd.f6) (can l2 [.l a, .l v]) gmF) [false, false, false, true, true, true, true, true, true, false] = back6T false 2 a v := by kernel_rfl

theorem toB_u8 : ∀ (k : Nat) (n : Int), U8 (toB k n)
  | 0, _, x, hx => by simp [toB] at hx
  | k + 1, n, x, hx => by
    rcases List.mem_cons.1 hx with rfl | hx
    · omega
    · exact toB_u8 k _ x hx
theorem bv_toB : ∀ (k : Nat) (n : Int), 0 ≤ n → n < 256 ^ k → bv (toB k n) = n
  | 0, n, h0, h1 => by simp at h1; simp [toB, bv]; omega
  | k + 1, n, h0, h1 => by
    simp only [toB, bv]
    rw [Int.pow_succ] at h1
    rw [bv_toB k (n / 256) (by omega) (Int.ediv_lt_of_lt_mul (by decide) h1)]
    omega
theorem bv_toB32 (n : Int) : bv (toB 32 (n % P25)) = n % P25 := bv_toB 32 _ (modP n).1 (Int.lt_trans (modP n).2 (by decide +kernel))

section
variable (A V : Int)
abbrev uB : Int := V * (A * A % P25) % P25
theorem fp_uB : fp (uB A V) = fp V * (fp A * fp A) := by simp only [uB, fp_mod, fp_mul]
theorem ok_uB : (rootP (uB A V) V).2 = true := by
  obtain ⟨-, h, -⟩ := rootP_spec (uB A V) V
  rcases h with ⟨h, -⟩ | ⟨-, -, h⟩
  · exact h
  · exact absurd (fp_uB A V).symm (h (fp A))
theorem root_uB (hv : fp V ≠ 0) : fp (rootP (uB A V) V).1 = fp A ∨ fp (rootP (uB A V) V).1 = -fp A := by
  obtain ⟨-, h, -⟩ := rootP_spec (uB A V) V
  rcases h with ⟨-, h⟩ | ⟨h, -⟩
  · rw [fp_uB] at h
    refine Nt.sq_eq Pn_prime _ _ ?_
    have hi := Nt.mul_inv Pn_prime _ hv
    grind
  · rw [ok_uB] at h; cases h
end

theorem even_not_odd {x : Int} (h0 : 0 ≤ x) (h1 : x < P25) (h : x % 2 = 0) : (!decide (x % P25 % 2 = 1)) = true := by
  rw [Int.emod_eq_of_lt h0 h1, decide_eq_false (by omega)]; rfl

theorem neg_parity {x : Int} (h : fp x ≠ 0) : (decide (x % P25 % 2 = 1) != decide ((-x) % P25 % P25 % 2 = 1)) = true := by
  have h1 : x % P25 ≠ 0 := fun e => h (fp_zero_iff.2 e)
  have h2 := modP x
  have h3 : (-x) % P25 % P25 = P25 - x % P25 := by
    rw [Int.emod_emod_of_dvd _ (Int.dvd_refl P25), ← neg_emod (r := x % P25) (by omega) h2.2]
    apply fp_eq.1
    rw [fp_neg, fp_neg, fp_mod]
  rw [h3]
  have hodd := Pn_odd
  generalize x % P25 = y at *
  generalize P25 = p at *
  by_cases ho : y % 2 = 1
  · rw [decide_eq_true ho, decide_eq_false (by omega)]; rfl
  · rw [decide_eq_false ho, decide_eq_true (by omega)]; rfl

theorem back6_good (a v : List Int) (u1 : U64 a) (u2 : U64 v) (r : Nat)
    (hr : (r = 0 ∧ fp (val v) = 0) ∨ (r = 1 ∧ fp (val v) ≠ 0 ∧ fp (rootP (uB (val a) (val v)) (val v)).1 = fp (val a)) ∨ (r = 2 ∧ fp (val v) ≠ 0 ∧ fp (rootP (uB (val a) (val v)) (val v)).1 ≠ fp (val a))) :
    Gd (back6T (decide (fp (val a) = 0)) r a v) fun u => ∀ ρ, u.den ρ = (outV [.bool] [.b true]).den ρ := by
  refine ⟨?_⟩
  have hok := ok_uB (val a) (val v)
  have hrt := root_uB (val a) (val v)
  have hspec := (rootP_spec (uB (val a) (val v)) (val v)).1
  have hodd := even_not_odd hspec.1 hspec.2.1 hspec.2.2
  have hone : fp (val a) ≠ 0 → fp (val a) * Nt.inv (fp (val a)) = 1 := fun h => Nt.mul_inv Pn_prime _ h
  simp only [back6T, sameT, invT, mul2T, root2T, T.good]
  refine ⟨⟨u1, uz4⟩, u1, ⟨u1, ut4 _⟩, ⟨u1, u1⟩, ⟨u2, ut4 _⟩, ⟨ut4 _, u2⟩, ⟨u2, uz4⟩, ?_⟩
  simp only [val_toLP]
  have e : val v * (val a * val a % P25) % P25 = uB (val a) (val v) := rfl
  by_cases hz : fp (val a) = 0
  · have h1 : (toL 4 (val a * (val a ^ 57896044618658097711785492504343953926634992332820282019728792003956564819947 % P25) % P25) == z4) = true := by
      rw [beq_z4]; simp only [fp_mul, hz]; exact decide_eq_true (by grind)
    have hz1 : decide (val a % P25 = val z4 % P25) = true := by rw [val_z4, sameP, fp_zero]; exact decide_eq_true hz
    have K3 : (oddT (toL 4 (rootP (val v * (val a * val a % P25) % P25) (val v)).1) fun o => isT (!o) true (bytes1T a fun bs => of1T bs fun n => add2T a z4 fun a0 => isT (n == a0) true (isT (decide (val a % P25 = val z4 % P25)) true (.ret .tt)))).good fun u => ∀ ρ, u.den ρ = (outV [.bool] [.b true]).den ρ := by
      simp only [oddT, isT, bytes1T, of1T, add2T, T.good, val_root, val_z4, bv_toB32]
      rw [e]
      refine ⟨ut4 _, hodd, u1, toB_u8 _ _, ⟨u1, uz4⟩, ?_, hz1, den_tt⟩
      rw [toL4_beq, fp_mod, Int.add_zero]; exact decide_eq_true rfl
    rw [decide_eq_true hz]
    rcases hr with ⟨rfl, hv⟩ | ⟨rfl, hv, hx⟩ | ⟨rfl, hv, hx⟩
    · simp only [isT, T.good]
      exact ⟨by rw [val_z4, sameP, fp_zero]; exact decide_eq_true hv, hz1, h1, hok, K3⟩
    · simp only [isT, add2T, T.good]
      refine ⟨by rw [val_z4, sameP, fp_zero]; exact decide_eq_false hv, ⟨u1, uz4⟩, ?_, hz1, h1, hok, K3⟩
      rw [root_beq, val_z4, Int.add_zero]; exact decide_eq_true hx
    · simp only [isT, add2T, neg1T, T.good]
      refine ⟨by rw [val_z4, sameP, fp_zero]; exact decide_eq_false hv, ⟨u1, uz4⟩, ?_, u1, hz1, h1, hok, ?_, K3⟩
      · rw [root_beq, val_z4, Int.add_zero]; exact decide_eq_false hx
      · rw [root_beq, fp_neg]; exact decide_eq_true ((hrt hv).resolve_left hx)
  · have h1 : (toL 4 (val a * (val a ^ 57896044618658097711785492504343953926634992332820282019728792003956564819947 % P25) % P25) == o4) = true := by
      rw [beq_o4]; simp only [fp_mul, fp_mod, fp_inv']; exact decide_eq_true (hone hz)
    have hz1 : decide (val a % P25 = val z4 % P25) = false := by rw [val_z4, sameP, fp_zero]; exact decide_eq_false hz
    have hz2 : (!decide (val a % P25 = val z4 % P25)) = true := by rw [hz1]; rfl
    have K3 : (oddT (toL 4 (rootP (val v * (val a * val a % P25) % P25) (val v)).1) fun o => isT (!o) true (bytes1T a fun bs => of1T bs fun n => add2T a z4 fun a0 => isT (n == a0) true (isT (decide (val a % P25 = val z4 % P25)) false
        (oddT a fun oa => neg1T a fun na => oddT na fun on => .ret (.bool (oa != on)))))).good fun u => ∀ ρ, u.den ρ = (outV [.bool] [.b true]).den ρ := by
      simp only [oddT, isT, bytes1T, of1T, add2T, neg1T, T.good, val_root, val_toLP, bv_toB32]
      rw [e]
      refine ⟨ut4 _, hodd, u1, toB_u8 _ _, ⟨u1, uz4⟩, ?_, hz1, u1, u1, ut4 _, den_true (neg_parity hz)⟩
      rw [val_z4, toL4_beq, fp_mod, Int.add_zero]; exact decide_eq_true rfl
    rw [decide_eq_false hz]
    rcases hr with ⟨rfl, hv⟩ | ⟨rfl, hv, hx⟩ | ⟨rfl, hv, hx⟩
    · simp only [isT, T.good]
      exact ⟨by rw [val_z4, sameP, fp_zero]; exact decide_eq_true hv, hz1, hz2, h1, hok, K3⟩
    · simp only [isT, add2T, T.good]
      refine ⟨by rw [val_z4, sameP, fp_zero]; exact decide_eq_false hv, ⟨u1, uz4⟩, ?_, hz1, hz2, h1, hok, K3⟩
      rw [root_beq, val_z4, Int.add_zero]; exact decide_eq_true hx
    · simp only [isT, add2T, neg1T, T.good]
      refine ⟨by rw [val_z4, sameP, fp_zero]; exact decide_eq_false hv, ⟨u1, uz4⟩, ?_, u1, hz1, hz2, h1, hok, ?_, K3⟩
      · rw [root_beq, val_z4, Int.add_zero]; exact decide_eq_false hx
      · rw [root_beq, fp_neg]; exact decide_eq_true ((hrt hv).resolve_left hx)

theorem fns6_ok : FnsOk Tryd.prog GF fns6 := ⟨fn27, fn33, fn18, fn31, fn14, fn20, fn29, fn24, fn22, fn13, trivial⟩
theorem fn6 : FnOk Tryd.prog GF 6 (ct l2 preU2 [.bool] (fun _ => [.b true])) := by
  refine fnOk_gd (cxF_ok fns6_ok) gF Tryd.func6 (c := body Tryd.f6) (by kernel_rfl) (enters_of Tryd.func6 (by kernel_rfl) (by kernel_rfl)) (fuel := 100) ?_
  intro xs hfit hp
  obtain ⟨a, v, rfl, ha, hb⟩ := fit_l2 hfit
  obtain ⟨u1, u2⟩ := hp
  have hg := back6_good a v u1 u2
  by_cases hv : fp (val v) = 0
  · have hg := hg 0 (.inl ⟨rfl, hv⟩)
    by_cases hz : fp (val a) = 0
    · rw [decide_eq_true hz] at hg; exact ⟨no, noBl, by simp [fit, fit1], Gd.of_run (run6t0 a v) hg⟩
    · rw [decide_eq_false hz] at hg; exact ⟨no, noBl, by simp [fit, fit1], Gd.of_run (run6f0 a v) hg⟩
  · by_cases hx : fp (rootP (uB (val a) (val v)) (val v)).1 = fp (val a)
    · have hg := hg 1 (.inr (.inl ⟨rfl, hv, hx⟩))
      by_cases hz : fp (val a) = 0
      · rw [decide_eq_true hz] at hg; exact ⟨no, noBl, by simp [fit, fit1], Gd.of_run (run6t1 a v) hg⟩
      · rw [decide_eq_false hz] at hg; exact ⟨no, noBl, by simp [fit, fit1], Gd.of_run (run6f1 a v) hg⟩
    · have hg := hg 2 (.inr (.inr ⟨rfl, hv, hx⟩))
      by_cases hz : fp (val a) = 0
      · rw [decide_eq_true hz] at hg; exact ⟨no, noBl, by simp [fit, fit1], Gd.of_run (run6t2 a v) hg⟩
      · rw [decide_eq_false hz] at hg; exact ⟨no, noBl, by simp [fit, fit1], Gd.of_run (run6f2 a v) hg⟩
end Go.Proofs.YtdmphnfpcblfnaaDoor
