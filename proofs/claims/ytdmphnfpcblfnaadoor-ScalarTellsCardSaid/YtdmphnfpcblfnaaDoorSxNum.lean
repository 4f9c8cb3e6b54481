import Derived.Test.YtdmphnfpcblfnaaDoorSxN
import Derived.Laws.MathBits
/- Plain numbers: lists of 64-bit digits. No program in sight. -/
namespace Go.Sx

def M64 : Int := 18446744073709551616

/-- Digits of sixty-four bits. -/
def U64 (l : List Int) : Prop := ∀ x ∈ l, 0 ≤ x ∧ x < 18446744073709551616
def val : List Int → Int
  | [] => 0
  | x :: l => x + 18446744073709551616 * val l
def toL : Nat → Int → List Int
  | 0, _ => []
  | k + 1, n => n % 18446744073709551616 :: toL k (n / 18446744073709551616)
/-- 2^64 to the power of k. -/
def pw : Nat → Int
  | 0 => 1
  | k + 1 => 18446744073709551616 * pw k

theorem pw_pos (k : Nat) : 0 < pw k := by induction k with
  | zero => decide
  | succ k ih => simp only [pw]; omega

theorem toL_length (k : Nat) (n : Int) : (toL k n).length = k := by induction k generalizing n <;> simp [toL, *]

theorem toL_u64 (k : Nat) (n : Int) : U64 (toL k n) := by
  induction k generalizing n with
  | zero => intro x hx; simp [toL] at hx
  | succ k ih =>
    intro x hx
    rcases List.mem_cons.1 hx with rfl | hx
    · omega
    · exact ih _ x hx

theorem U64.cons {x : Int} {l : List Int} : U64 (x :: l) ↔ (0 ≤ x ∧ x < 18446744073709551616) ∧ U64 l := by
  simp [U64]

theorem U64.nil : U64 [] := fun x hx => by cases hx

theorem val_range {l : List Int} (h : U64 l) : 0 ≤ val l ∧ val l < pw l.length := by
  induction l with
  | nil => simp [val, pw]
  | cons x l ih =>
    obtain ⟨h1, h2⟩ := U64.cons.1 h
    have := ih h2
    simp only [val, List.length_cons, pw]
    generalize pw l.length = p at *
    omega

theorem val_toL (k : Nat) (n : Int) : val (toL k n) = n % pw k := by
  induction k generalizing n with
  | zero => simp [toL, val, pw, Int.emod_one]
  | succ k ih =>
    simp only [toL, val, ih, pw]
    have hp := pw_pos k
    have h1 := Int.emod_add_mul_ediv (n / 18446744073709551616) (pw k)
    have h2 := Int.emod_nonneg (n / 18446744073709551616) (show pw k ≠ 0 by omega)
    have h3 := Int.emod_lt_of_pos (n / 18446744073709551616) hp
    generalize hq : n / 18446744073709551616 = q at *
    generalize ht : q % pw k = t at *
    generalize hs : q / pw k = s at *
    generalize pw k = p at *
    have e : n = (n % 18446744073709551616 + 18446744073709551616 * t) + (18446744073709551616 * p) * s := by
      have : (18446744073709551616 * p) * s = 18446744073709551616 * (p * s) := by rw [Int.mul_assoc]
      omega
    generalize hr : n % 18446744073709551616 = r at *
    rw [e, Int.add_mul_emod_self_left, Int.emod_eq_of_lt (by omega) (by omega)]

theorem toL_val {l : List Int} (h : U64 l) : toL l.length (val l) = l := by
  induction l with
  | nil => rfl
  | cons x l ih =>
    obtain ⟨h1, h2⟩ := U64.cons.1 h
    simp only [List.length_cons, toL, val]
    congr 1
    · omega
    · have : (x + 18446744073709551616 * val l) / 18446744073709551616 = val l := by omega
      rw [this]; exact ih h2

theorem toL_mod (k : Nat) (n : Int) : toL k (n % pw k) = toL k n := by
  rw [← val_toL]
  have := toL_val (toL_u64 k n)
  rw [toL_length] at this
  exact this

/-- Sums, with what goes over. -/
def addL : List Int → List Int → Int → List Int × Int
  | a :: as, b :: bs, c => ((a + b + c) % 18446744073709551616 :: (addL as bs ((a + b + c) / 18446744073709551616)).1, (addL as bs ((a + b + c) / 18446744073709551616)).2)
  | _, _, c => ([], c)

theorem addL_eq : ∀ (k : Nat) (a b : List Int) (c : Int), a.length = k → b.length = k → addL a b c = (toL k (val a + val b + c), (val a + val b + c) / pw k)
  | 0, a, b, c, ha, hb => by
    have : a = [] := by cases a <;> simp_all
    subst this
    have : b = [] := by cases b <;> simp_all
    subst this
    simp [addL, toL, val, pw]
  | k + 1, a :: as, b :: bs, c, ha, hb => by
    have ih := addL_eq k as bs ((a + b + c) / 18446744073709551616) (by simpa using ha) (by simpa using hb)
    simp only [addL, ih, toL, val, pw]
    have e1 : (a + 18446744073709551616 * val as + (b + 18446744073709551616 * val bs) + c) % 18446744073709551616 = (a + b + c) % 18446744073709551616 := by omega
    have e2 : (a + 18446744073709551616 * val as + (b + 18446744073709551616 * val bs) + c) / 18446744073709551616 = val as + val bs + (a + b + c) / 18446744073709551616 := by omega
    rw [e1, e2]
    congr 1
    rw [← e2, Int.ediv_ediv_of_nonneg (by omega)]
end Go.Sx
