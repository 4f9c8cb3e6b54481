import Derived.Test.YtdmphnfpcblfnaaDoorNtB
/- The field of a prime, as numbers below it: inverses, squares, roots. No program in sight. -/
namespace Go.Nt

section
variable {n : Nat} [NeZero n]

theorem fin_dvd {n : Nat} [NeZero n] (x y : Fin n) (h : x * y = 0) : n ∣ x.val * y.val := by
  have := congrArg Fin.val h
  rw [Fin.val_mul] at this
  exact Nat.dvd_of_mod_eq_zero (by simpa using this)

theorem fin_zero {n : Nat} [NeZero n] (x : Fin n) (h : n ∣ x.val) : x = 0 := by
  apply Fin.ext
  have := x.isLt
  rcases Nat.eq_zero_or_pos x.val with h0 | h0
  · simpa using h0
  · have := Nat.le_of_dvd h0 h
    omega

theorem pow0 (x : Fin n) : x ^ 0 = 1 := by grind
theorem pow1 (x : Fin n) : x ^ 1 = x := by grind
theorem powS (x : Fin n) (k : Nat) : x ^ (k + 1) = x ^ k * x := by grind
theorem powA (x : Fin n) (a b : Nat) : x ^ (a + b) = x ^ a * x ^ b := by
  induction b with
  | zero => rw [pow0, Nat.add_zero]; grind
  | succ b ih => rw [← Nat.add_assoc, powS, ih, powS]; grind

theorem mul_zero_or (hp : Prime n) (x y : Fin n) (h : x * y = 0) : x = 0 ∨ y = 0 := by
  rcases hp.dvd_mul (fin_dvd x y h) with h | h
  · exact .inl (fin_zero x h)
  · exact .inr (fin_zero y h)

theorem fin_pow_val (x : Fin n) (k : Nat) : (x ^ k).val = x.val ^ k % n := by
  induction k with
  | zero =>
    have : x ^ 0 = 1 := by grind
    rw [this, Nat.pow_zero]
    rfl
  | succ k ih =>
    have : x ^ (k + 1) = x ^ k * x := by grind
    rw [this, Fin.val_mul, ih, Nat.pow_succ, Nat.mul_mod, Nat.mod_mod, ← Nat.mul_mod]

theorem fermatF (hp : Prime n) (x : Fin n) (h : x ≠ 0) : x ^ (n - 1) = 1 := by
  apply Fin.ext
  rw [fin_pow_val, fermat hp (fun hd => h (fin_zero x hd))]
  have := hp.1
  exact (Nat.mod_eq_of_lt (show 1 < n by omega)).symm

theorem one_ne_zero (hp : Prime n) : (1 : Fin n) ≠ 0 := by
  intro h
  have h1 : 1 % n = 0 % n := congrArg Fin.val h
  have := hp.1
  rw [Nat.mod_eq_of_lt (show 1 < n by omega), Nat.mod_eq_of_lt (show 0 < n by omega)] at h1
  cases h1

/-- What a number is multiplied by to be 1. -/
def inv (x : Fin n) : Fin n := x ^ (n - 2)

theorem mul_inv (hp : Prime n) (x : Fin n) (h : x ≠ 0) : x * inv x = 1 := by
  have h1 := fermatF hp x h
  have := hp.1
  unfold inv
  have e : x * x ^ (n - 2) = x ^ (n - 2 + 1) := by rw [powS]; grind
  rw [e, show n - 2 + 1 = n - 1 by omega, h1]

theorem pow_zero' {k : Nat} (h : 0 < k) : (0 : Fin n) ^ k = 0 := by
  obtain ⟨j, rfl⟩ : ∃ j, k = j + 1 := ⟨k - 1, by omega⟩
  rw [powS]; grind

theorem inv_zero (h : 2 < n) : inv (0 : Fin n) = 0 := pow_zero' (by omega)

theorem pow_mul' (x : Fin n) (a b : Nat) : x ^ (a * b) = (x ^ a) ^ b := by
  induction b with
  | zero => rw [pow0, Nat.mul_zero, pow0]
  | succ b ih => rw [Nat.mul_succ, powA, powS, ih]

theorem mul_pow' (x y : Fin n) (k : Nat) : (x * y) ^ k = x ^ k * y ^ k := by
  induction k with
  | zero => rw [pow0, pow0, pow0]; grind
  | succ k ih => rw [powS, powS, powS, ih]; grind

theorem sq_eq (hp : Prime n) (x y : Fin n) (h : x * x = y * y) : x = y ∨ x = -y := by
  have : (x - y) * (x + y) = 0 := by grind
  rcases mul_zero_or hp _ _ this with h | h
  · left; grind
  · right; grind

/-- **A root of u, divided by v: of (u / v) to the power of (n + 3) / 8, it or it times a root of -1, if there is any.** -/
theorem root_alt (hp : Prime n) {k : Nat} (hk : n = 8 * k + 5) (s : Fin n) (hs : s * s = -1) (u v q : Fin n) (hq : q = (u * inv v) ^ (k + 1)) :
    v * (q * q) = u ∨ v * (q * s * (q * s)) = u ∨ ∀ t, v * (t * t) ≠ u := by
  by_cases hv : v = 0
  · by_cases hu : u = 0
    · left; rw [hv, hu]; grind
    · right; right
      intro t ht
      rw [hv] at ht
      exact hu (by grind)
  · have hvi := mul_inv hp v hv
    generalize hw : u * inv v = w at hq
    have hwu : v * w = u := by rw [← hw]; grind
    by_cases hex : ∃ t, v * (t * t) = u
    · obtain ⟨t, ht⟩ := hex
      have hwt : w = t * t := by rw [← hw]; grind
      by_cases ht0 : t = 0
      · left
        have hw0 : w = 0 := by rw [hwt, ht0]; grind
        have hq0 : q = 0 := by rw [hq, hw0]; exact pow_zero' (by omega)
        rw [hq0]; grind
      · have hf := fermatF hp t ht0
        have hq2 : q * q = w * w ^ (2 * k + 1) := by
          rw [hq, ← powA, show k + 1 + (k + 1) = 2 * k + 1 + 1 by omega, powS]; grind
        have h1 : w ^ (2 * k + 1) * w ^ (2 * k + 1) = 1 * 1 := by
          have e2 : w = t ^ 2 := by rw [hwt]; grind
          rw [← powA, e2, ← pow_mul', show 2 * (2 * k + 1 + (2 * k + 1)) = n - 1 by omega, hf]; grind
        rcases sq_eq hp _ _ h1 with h | h
        · left; rw [hq2, h]; grind
        · right; left
          have : q * s * (q * s) = q * q * (s * s) := by grind
          rw [this, hs, hq2, h]; grind
    · right; right
      intro t ht
      exact hex ⟨t, ht⟩

/-- Whether a number has a root. -/
def Sq (x : Fin n) : Prop := ∃ t, t * t = x

/-- Of two numbers without a root their product has one. -/
theorem Sq.mul (x y : Fin n) : Sq x → Sq y → Sq (x * y) := fun ⟨a, ha⟩ ⟨b, hb⟩ => ⟨a * b, by rw [← ha, ← hb]; grind⟩

theorem Sq.div (hp : Prime n) (x y : Fin n) (hx : x ≠ 0) (h : Sq x) (hxy : Sq (x * y)) : Sq y := by
  obtain ⟨a, ha⟩ := h
  obtain ⟨c, hc⟩ := hxy
  have hi := mul_inv hp x hx
  refine ⟨c * a * inv x, ?_⟩
  have : c * a * inv x * (c * a * inv x) = (c * c) * (a * a) * inv x * inv x := by grind
  rw [this, hc, ha]
  grind
end

/-! ### A number without a root: the power of (n - 1) / 2 tells -/
section
variable {n : Nat} [NeZero n]

theorem euler_sq (hp : Prime n) {k : Nat} (hk : n = 2 * k + 1) (x : Fin n) (hx : x ≠ 0) (h : Sq x) : x ^ k = 1 := by
  obtain ⟨t, ht⟩ := h
  have ht0 : t ≠ 0 := fun e => hx (by rw [← ht, e]; grind)
  have e2 : x = t ^ 2 := by rw [← ht]; grind
  rw [e2, ← pow_mul', show 2 * k = n - 1 by omega]
  exact fermatF hp t ht0

theorem euler_pm (hp : Prime n) {k : Nat} (hk : n = 2 * k + 1) (x : Fin n) (hx : x ≠ 0) : x ^ k = 1 ∨ x ^ k = -1 := by
  have h := fermatF hp x hx
  have h1 : x ^ k * x ^ k = 1 * 1 := by
    rw [← powA, show k + k = n - 1 by omega, h]; grind
  exact sq_eq hp _ _ h1

/-- In the field of 8 k + 5: if the power of (n - 1) / 2 is 1 there is a root. -/
theorem sq_of_euler (hp : Prime n) {k : Nat} (_ : n = 8 * k + 5) (s : Fin n) (hs : s * s = -1) (x : Fin n) (h : x ^ (4 * k + 2) = 1) : Sq x := by
  have h1 : x ^ (2 * k + 1) * x ^ (2 * k + 1) = 1 * 1 := by
    rw [← powA, show 2 * k + 1 + (2 * k + 1) = 4 * k + 2 by omega, h]; grind
  have hq2 : x ^ (k + 1) * x ^ (k + 1) = x * x ^ (2 * k + 1) := by
    rw [← powA, show k + 1 + (k + 1) = 2 * k + 1 + 1 by omega, powS]; grind
  generalize x ^ (k + 1) = q at hq2
  rcases sq_eq hp _ _ h1 with h | h
  · exact ⟨q, by rw [hq2, h]; grind⟩
  · refine ⟨q * s, ?_⟩
    have : q * s * (q * s) = q * q * (s * s) := by grind
    rw [this, hs, hq2, h]; grind

theorem not_sq_mul (hp : Prime n) {k : Nat} (hk : n = 8 * k + 5) (s : Fin n) (hs : s * s = -1) (x y : Fin n) (hx : ¬ Sq x) (hy : ¬ Sq y) : Sq (x * y) := by
  have zero : Sq (0 : Fin n) := ⟨0, by grind⟩
  have hx0 : x ≠ 0 := fun e => hx (e ▸ zero)
  have hy0 : y ≠ 0 := fun e => hy (e ▸ zero)
  have h1 := euler_pm hp (k := 4 * k + 2) (by omega) x hx0
  have h2 := euler_pm hp (k := 4 * k + 2) (by omega) y hy0
  have e1 : x ^ (4 * k + 2) = -1 := h1.resolve_left fun h => hx (sq_of_euler hp hk s hs x h)
  have e2 : y ^ (4 * k + 2) = -1 := h2.resolve_left fun h => hy (sq_of_euler hp hk s hs y h)
  exact sq_of_euler hp hk s hs _ (by rw [mul_pow', e1, e2]; grind)
end

/-! ### Whole numbers, taken modulo n -/
section
variable (n : Nat) [NeZero n]

def toF (x : Int) : Fin n := ⟨(x % (n : Int)).toNat, by
  have h0 : 0 < n := Nat.pos_of_ne_zero (NeZero.ne n)
  have h1 := Int.emod_nonneg x (show (n : Int) ≠ 0 by omega)
  have h2 := Int.emod_lt_of_pos x (show 0 < (n : Int) by omega)
  omega⟩

theorem toF_val (x : Int) : ((toF n x).val : Int) = x % n := by
  have h0 : 0 < n := Nat.pos_of_ne_zero (NeZero.ne n)
  have h1 := Int.emod_nonneg x (show (n : Int) ≠ 0 by omega)
  simp only [toF]
  omega

theorem toF_eq {x y : Int} : toF n x = toF n y ↔ x % n = y % n := by
  constructor
  · intro h
    have := congrArg (fun z : Fin n => (z.val : Int)) h
    simpa only [toF_val] using this
  · intro h
    apply Fin.ext
    have h1 := toF_val n x
    have h2 := toF_val n y
    omega

theorem toF_mod (x : Int) : toF n (x % n) = toF n x := (toF_eq n).2 (Int.emod_emod_of_dvd _ (Int.dvd_refl _))

theorem toF_of (a : Fin n) (x : Int) (h : (a.val : Int) % n = x % n) : a = toF n x := by
  apply Fin.ext
  have h1 := toF_val n x
  have h2 := Int.emod_eq_of_lt (a := (a.val : Int)) (b := n) (by omega) (by have := a.isLt; omega)
  omega

theorem toF_add (x y : Int) : toF n (x + y) = toF n x + toF n y := by
  symm
  apply toF_of
  rw [Fin.val_add]
  rw [Int.natCast_emod, Int.natCast_add, toF_val, toF_val, Int.emod_emod_of_dvd _ (Int.dvd_refl _), ← Int.add_emod]

theorem toF_mul (x y : Int) : toF n (x * y) = toF n x * toF n y := by
  symm
  apply toF_of
  rw [Fin.val_mul]
  rw [Int.natCast_emod, Int.natCast_mul, toF_val, toF_val, Int.emod_emod_of_dvd _ (Int.dvd_refl _), ← Int.mul_emod]

theorem toF_zero : toF n 0 = 0 := by
  symm; apply toF_of; simp
theorem toF_one : toF n 1 = 1 := by
  symm; apply toF_of
  show ((1 % n : Nat) : Int) % n = 1 % n
  rw [Int.natCast_emod, Int.emod_emod_of_dvd _ (Int.dvd_refl _)]; rfl

theorem toF_neg (x : Int) : toF n (-x) = -toF n x := by
  have h : toF n (-x) + toF n x = 0 := by rw [← toF_add, Int.add_left_neg, toF_zero]
  grind
theorem toF_sub (x y : Int) : toF n (x - y) = toF n x - toF n y := by
  rw [Int.sub_eq_add_neg, toF_add, toF_neg]; grind
theorem toF_pow (x : Int) (k : Nat) : toF n (x ^ k) = toF n x ^ k := by
  induction k with
  | zero => rw [Int.pow_zero, toF_one, pow0]
  | succ k ih => rw [Int.pow_succ, toF_mul, ih, powS]
end
end Go.Nt
