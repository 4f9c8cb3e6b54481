import Derived.Test.YtdmphnfpcblfnaaDoorFs19
/- The document's answer for the field: digits, and the product's contract. -/
namespace Go.Proofs.YtdmphnfpcblfnaaDoor
open Go Go.Sx
set_option maxRecDepth 100000

theorem or16 (a b : Int) (k : Nat) (ha : 0 ≤ a ∧ a < 2 ^ k) (hb : 0 ≤ b ∧ b ≤ 65535) (hk : k ≤ 48) : bitsI .or .u64 a (shlI .u64 b (k : Int)) = a + 2 ^ k * b := by
  obtain ⟨A, rfl⟩ := Int.eq_ofNat_of_zero_le ha.1
  obtain ⟨B, rfl⟩ := Int.eq_ofNat_of_zero_le hb.1
  have hA : A < 2 ^ k := by have := ha.2; rw [show (2 : Int) ^ k = ((2 ^ k : Nat) : Int) by simp] at this; omega
  have hB : B ≤ 65535 := by omega
  have h2 : (2 : Nat) ^ k ≤ 2 ^ 48 := Nat.pow_le_pow_right (by decide) hk
  have hp : 2 ^ k * B < 18446744073709551616 := by
    have : 2 ^ k * B ≤ 2 ^ 48 * 65535 := Nat.mul_le_mul h2 (by omega)
    omega
  have e : shlI .u64 (B : Int) (k : Int) = ((2 ^ k * B : Nat) : Int) := by
    simp only [shlI, IntKind.bits, Int.toNat_natCast, Nat.min_eq_left (show k ≤ 64 by omega), wrap_u64]
    rw [show (B : Int) * 2 ^ k = ((2 ^ k * B : Nat) : Int) by simp [Int.mul_comm]]
    exact Int.emod_eq_of_lt (by omega) (by omega)
  rw [e]
  have e2 : bitsI .or .u64 (A : Int) ((2 ^ k * B : Nat) : Int) = ((A ||| 2 ^ k * B : Nat) : Int) := u64_or_nat A (2 ^ k * B) (by omega) hp
  rw [e2, Nat.or_comm, ← Nat.two_pow_add_eq_or_of_lt hA]
  simp
  omega

def w4 (a b c d : Int) : Int := bitsI .or .u64 (bitsI .or .u64 (bitsI .or .u64 (bitsI .or .u64 0 (shlI .u64 a 0)) (shlI .u64 b 16)) (shlI .u64 c 32)) (shlI .u64 d 48)
theorem w4_eq (a b c d : Int) (h : Bd 65535 [a, b, c, d]) : w4 a b c d = a + 65536 * b + 4294967296 * c + 281474976710656 * d := by
  simp only [Bd, List.mem_cons, List.not_mem_nil, or_false, forall_eq_or_imp, forall_eq] at h
  obtain ⟨h0, h1, h2, h3⟩ := h
  have e0 := or16 0 a 0 (by omega) h0 (by omega)
  have e1 := or16 a b 16 (by omega) h1 (by omega)
  have e2 := or16 (a + 65536 * b) c 32 (by omega) h2 (by omega)
  have e3 := or16 (a + 65536 * b + 4294967296 * c) d 48 (by omega) h3 (by omega)
  simp only [Int.reducePow, Int.zero_add, Int.one_mul, Int.pow_zero, Int.cast_ofNat_Int] at e0 e1 e2 e3
  unfold w4
  rw [e0, e1, e2, e3]

/-- The words of digits. -/
def ocell (l : List Int) (o : List Int) (k : Nat) : List Int := putL o (k / 4) 4 1 [bitsI .or .u64 (o.getD (k / 4) 0) (shlI .u64 (l.getD k 0) (16 * (k % 4) : Nat))]
def oall (l : List Int) : Nat → List Int
  | 0 => [0, 0, 0, 0]
  | k + 1 => ocell l (oall l k) k
theorem opass_eq {l : List Int} (h : Bd 65535 l) : ∀ k : Nat, opass l k = (oall l k, 0)
  | 0 => rfl
  | k + 1 => by
    have hg := h.getD (by omega) k
    simp only [opass, ostep, oall, ocell, opass_eq h k, wrap_u64, Int.add_zero]
    rw [Int.emod_eq_of_lt (a := l.getD k 0) (by omega) (by omega), Int.tmod_eq_emod_of_nonneg (by omega), Int.emod_eq_of_lt (a := l.getD k 0) (b := 65536) (by omega) (by omega), Int.tdiv_eq_ediv_of_nonneg (by omega), Int.ediv_eq_zero_of_lt (by omega) (by omega)]
    rfl
theorem oall16 (d0 d1 d2 d3 d4 d5 d6 d7 d8 d9 d10 d11 d12 d13 d14 d15 : Int) : oall [d0, d1, d2, d3, d4, d5, d6, d7, d8, d9, d10, d11, d12, d13, d14, d15] 16 = [w4 d0 d1 d2 d3, w4 d4 d5 d6 d7, w4 d8 d9 d10 d11, w4 d12 d13 d14 d15] := by kernel_rfl
theorem len16 {l : List Int} (h : l.length = 16) : ∃ d0 d1 d2 d3 d4 d5 d6 d7 d8 d9 d10 d11 d12 d13 d14 d15, l = [d0, d1, d2, d3, d4, d5, d6, d7, d8, d9, d10, d11, d12, d13, d14, d15] := by
  match l, h with
  | [d0, d1, d2, d3, d4, d5, d6, d7, d8, d9, d10, d11, d12, d13, d14, d15], _ => exact ⟨d0, d1, d2, d3, d4, d5, d6, d7, d8, d9, d10, d11, d12, d13, d14, d15, rfl⟩

theorem opass_val {l : List Int} (h : Bd 65535 l) (hl : l.length = 16) : U64 (opass l 16).1 ∧ (opass l 16).1.length = 4 ∧ val (opass l 16).1 = dv l := by
  rw [opass_eq h]
  obtain ⟨d0, d1, d2, d3, d4, d5, d6, d7, d8, d9, d10, d11, d12, d13, d14, d15, rfl⟩ := len16 hl
  rw [oall16]
  simp only [Bd, List.mem_cons, List.not_mem_nil, or_false, forall_eq_or_imp, forall_eq] at h
  obtain ⟨h0, h1, h2, h3, h4, h5, h6, h7, h8, h9, h10, h11, h12, h13, h14, h15⟩ := h
  have m (a b c d : Int) (ha : 0 ≤ a ∧ a ≤ 65535) (hb : 0 ≤ b ∧ b ≤ 65535) (hc : 0 ≤ c ∧ c ≤ 65535) (hd : 0 ≤ d ∧ d ≤ 65535) : w4 a b c d = a + 65536 * b + 4294967296 * c + 281474976710656 * d :=
    w4_eq a b c d (by simp only [Bd, List.mem_cons, List.not_mem_nil, or_false, forall_eq_or_imp, forall_eq]; exact ⟨ha, hb, hc, hd⟩)
  rw [m d0 d1 d2 d3 h0 h1 h2 h3, m d4 d5 d6 d7 h4 h5 h6 h7, m d8 d9 d10 d11 h8 h9 h10 h11, m d12 d13 d14 d15 h12 h13 h14 h15]
  refine ⟨u64_4.2 ⟨by omega, by omega, by omega, by omega⟩, rfl, ?_⟩
  simp only [val, dv]
  omega

theorem toD_length (k : Nat) (n : Int) : (toD k n).length = k := by induction k generalizing n <;> simp [toD, *]
theorem toD_bd : ∀ (k : Nat) (n : Int), Bd 65535 (toD k n)
  | 0, n, x, hx => by simp [toD] at hx
  | k + 1, n, x, hx => by
    rcases List.mem_cons.1 hx with rfl | hx
    · omega
    · exact toD_bd k _ x hx
theorem dv_toD : ∀ (k : Nat) (n : Int), 0 ≤ n → n < 65536 ^ k → dv (toD k n) = n
  | 0, n, h0, h1 => by simp at h1; simp [toD, dv]; omega
  | k + 1, n, h0, h1 => by
    simp only [toD, dv]
    rw [Int.pow_succ] at h1
    rw [dv_toD k (n / 65536) (by omega) (Int.ediv_lt_of_lt_mul (by decide) h1)]
    omega

theorem fold38 (u v : Int) : (u + T256 * v) % P25 = (u + 38 * v) % P25 := by
  rw [show u + T256 * v = u + 38 * v + P25 * (2 * v) by simp only [T256, P25]; omega, Int.add_mul_emod_self_left]

theorem red38 (z : Int) : (z % T256 + 38 * (z / T256)) % P25 = z % P25 := by
  have := fold38 (z % T256) (z / T256)
  rw [Int.emod_add_mul_ediv z T256] at this
  exact this.symm
theorem T_pos : (0 : Int) < T256 := by decide
theorem T_big : (1629426505140735 : Int) * 4 < T256 := by decide
/-- A number that is folded twice is below 2^256. -/
theorem twice38 (z : Int) (h : 0 ≤ z / T256 ∧ z / T256 ≤ 42879644870400) : let y := z % T256 + 38 * (z / T256)
    0 ≤ y % T256 + 38 * (y / T256) ∧ y % T256 + 38 * (y / T256) < T256 := by
  intro y
  have hT := T_pos
  have hB := T_big
  have m0 := Int.emod_nonneg z (show T256 ≠ 0 by decide)
  have m1 := Int.emod_lt_of_pos z hT
  have m2 := Int.emod_nonneg y (show T256 ≠ 0 by decide)
  have m3 := Int.emod_lt_of_pos y hT
  have e := Int.emod_add_mul_ediv y T256
  have hy : y = z % T256 + 38 * (z / T256) := rfl
  clear_value y
  generalize z % T256 = u at *
  generalize z / T256 = v at *
  have hlt : y < 2 * T256 := by generalize T256 = T at *; omega
  have h0 : 0 ≤ y / T256 := Int.ediv_nonneg (by omega) (by omega)
  have h1 := Int.ediv_lt_of_lt_mul hT hlt
  generalize y % T256 = r at *
  have : y / T256 = 0 ∨ y / T256 = 1 := by omega
  rcases this with h | h <;> rw [h] at e ⊢ <;> generalize T256 = T at * <;> omega

theorem mlow_mod (m : List Int) (a1 : m.length = 32) (a2 : Bd 1099478073600 m) : (mlow m 16).length = 16 ∧ Bd 42879644870400 (mlow m 16) ∧ dv (mlow m 16) % P25 = dv m % P25 := by
  obtain ⟨b1, b2, b3, -⟩ := mlow_spec a2 a1 16 (Nat.le_refl _)
  have hsplit := dv_split m 16
  have e : (m.drop 16).take 16 = m.drop 16 := List.take_of_length_le (by rw [List.length_drop]; omega)
  rw [e] at b3
  refine ⟨b1, b2, ?_⟩
  rw [hsplit, b3, t256, fold38]

theorem fold_end (l2 : List Int) (d1 : l2.length = 16) (d3 : Bd 61918207195413465 l2) (n2 : 0 ≤ dv l2 ∧ dv l2 < T256) :
    U64 (opass (pass38 l2) 16).1 ∧ (opass (pass38 l2) 16).1.length = 4 ∧ val (opass (pass38 l2) 16).1 = dv l2 := by
  obtain ⟨f1, -, f3, f4⟩ := pass38_spec d3 d1 (by omega) (by omega)
  have hq2 : dv l2 / T256 = 0 := Int.ediv_eq_zero_of_lt n2.1 n2.2
  rw [hq2, Int.emod_eq_of_lt n2.1 n2.2] at f4
  rw [hq2] at f3
  have f3 := f3.mono (show (65535 + 38 * 0 : Int) ≤ 65535 by omega)
  obtain ⟨g1, g2, g3⟩ := opass_val f3 f1
  exact ⟨g1, g2, by rw [g3, f4]; omega⟩

theorem fold_mid (z : Int) (l1 : List Int) (c1 : l1.length = 16) (c3 : Bd 1629426505140735 l1) (n2 : 0 ≤ dv l1 % T256 + 38 * (dv l1 / T256) ∧ dv l1 % T256 + 38 * (dv l1 / T256) < T256) (hz : dv l1 % P25 = z) :
    U64 (opass (pass38 (pass38 l1)) 16).1 ∧ (opass (pass38 (pass38 l1)) 16).1.length = 4 ∧ val (opass (pass38 (pass38 l1)) 16).1 % P25 = z := by
  obtain ⟨d1, d2, d3, d4⟩ := pass38_spec c3 c1 (by omega) (by omega)
  have d3 := d3.mono (show (65535 + 38 * (dv l1 / T256) : Int) ≤ 61918207195413465 by omega)
  obtain ⟨g1, g2, g3⟩ := fold_end (pass38 l1) d1 d3 (by rw [d4]; exact n2)
  exact ⟨g1, g2, by rw [g3, d4, red38]; exact hz⟩

theorem rmul_fold (l0 : List Int) (b1 : l0.length = 16) (b2 : Bd 42879644870400 l0) :
    U64 (opass (pass38 (pass38 (pass38 l0))) 16).1 ∧ (opass (pass38 (pass38 (pass38 l0))) 16).1.length = 4 ∧ val (opass (pass38 (pass38 (pass38 l0))) 16).1 % P25 = dv l0 % P25 := by
  obtain ⟨c1, c2, c3, c4⟩ := pass38_spec b2 b1 (by omega) (by omega)
  have c3 := c3.mono (show (65535 + 38 * (dv l0 / T256) : Int) ≤ 1629426505140735 by omega)
  have n2 := twice38 (dv l0) c2
  simp only at n2
  rw [← c4] at n2
  exact fold_mid _ (pass38 l0) c1 c3 n2 (by rw [c4, red38])

theorem rmul_spec {x y : List Int} (hx : Bd 65535 x) (hy : Bd 65535 y) (hxl : x.length = 16) (hyl : y.length = 16) :
    U64 (rmulV x y) ∧ (rmulV x y).length = 4 ∧ val (rmulV x y) % P25 = dv x * dv y % P25 := by
  obtain ⟨a1, a2, a3⟩ := mall_spec hx hy hyl hxl 16 (Nat.le_refl _)
  rw [List.take_of_length_le (by omega)] at a3
  obtain ⟨h1, h2, h3⟩ := mlow_mod _ a1 (a2.mono (by decide))
  obtain ⟨g1, g2, g3⟩ := rmul_fold _ h1 h2
  unfold rmulV
  exact ⟨g1, g2, by rw [g3, h3, a3]⟩

theorem fn19 (h56 : FnOk Tryd.prog GT 56 digC) : FnOk Tryd.prog GT 19 mulC := by
  refine fnOk_gd (cxT_ok (fns := [(56, digC), (53, belowC)]) ⟨h56, fn53, trivial⟩) gT Tryd.func19 (c := body Tryd.f19) (by kernel_rfl) (enters_of Tryd.func19 (by kernel_rfl) (by kernel_rfl)) (fuel := 100) ?_
  intro xs hfit hp
  obtain ⟨a, b, rfl, ha, hb⟩ := fit_l2 hfit
  obtain ⟨u1, u2⟩ := hp
  refine ⟨blK a b (toD 16 (val a)) (toD 16 (val b)), fun Γ hG h0 hg hz => blK_in (hG ▸ cxT_ok (fns := [(56, digC), (53, belowC)]) ⟨h56, fn53, trivial⟩) hg h0 hz a b _ _, fit_i4 _, Gd.of_eq (run19 a b) ⟨?_⟩⟩
  have ra := val4_range u1 ha
  have rb := val4_range u2 hb
  have ea := dv_toD 16 (val a) ra.1 (by rw [t256]; exact ra.2)
  have eb := dv_toD 16 (val b) rb.1 (by rw [t256]; exact rb.2)
  obtain ⟨s1, s2, s3⟩ := rmul_spec (toD_bd 16 (val a)) (toD_bd 16 (val b)) (toD_length 16 _) (toD_length 16 _)
  rw [ea, eb] at s3
  simp only [dig1T, belT, T.good]
  refine ⟨u1, u2, ndK_good ?_ 16⟩
  refine ⟨s1, fun ρ => ?_⟩
  rw [s3]
  rfl

/-! ### digits -/
theorem run56 (a : List Int) : runX (cxF []) no 100 Tryd.f56 (body Tryd.f56) (can l1 [.l a]) gmT = .ret (.ints .u64 16 [(shrI .u64 (a.getD 0 0) 0).tmod 65536, (shrI .u64 (a.getD 0 0) 16).tmod 65536, (shrI .u64 (a.getD 0 0) 32).tmod 65536, (shrI .u64 (a.getD 0 0) 48).tmod 65536, (shrI .u64 (a.getD 1 0) 0).tmod 65536, (shrI .u64 (a.getD 1 0) 16).tmod 65536, (shrI .u64 (a.getD 1 0) 32).tmod 65536, (shrI .u64 (a.getD 1 0) 48).tmod 65536, (shrI .u64 (a.getD 2 0) 0).tmod 65536, (shrI .u64 (a.getD 2 0) 16).tmod 65536, (shrI .u64 (a.getD 2 0) 32).tmod 65536, (shrI .u64 (a.getD 2 0) 48).tmod 65536, (shrI .u64 (a.getD 3 0) 0).tmod 65536, (shrI .u64 (a.getD 3 0) 16).tmod 65536, (shrI .u64 (a.getD 3 0) 32).tmod 65536, (shrI .u64 (a.getD 3 0) 48).tmod 65536]) := by kernel_rfl
theorem dig4 (x : Int) (hx : 0 ≤ x ∧ x < 18446744073709551616) : [(shrI .u64 x 0).tmod 65536, (shrI .u64 x 16).tmod 65536, (shrI .u64 x 32).tmod 65536, (shrI .u64 x 48).tmod 65536] = toD 4 x := by
  have s (k : Nat) (hk : k ≤ 64) : shrI .u64 x (k : Int) = x / 2 ^ k := shrI_u64 x k hk
  have s0 := s 0 (by omega)
  have s1 := s 16 (by omega)
  have s2 := s 32 (by omega)
  have s3 := s 48 (by omega)
  simp only [Int.cast_ofNat_Int, Int.reducePow, Int.pow_zero, Int.ediv_one] at s0 s1 s2 s3
  rw [s0, s1, s2, s3, Int.tmod_eq_emod_of_nonneg (by omega), Int.tmod_eq_emod_of_nonneg (by omega), Int.tmod_eq_emod_of_nonneg (by omega), Int.tmod_eq_emod_of_nonneg (by omega)]
  clear s s0 s1 s2 s3
  simp only [toD, List.cons.injEq, and_true, true_and]
  refine ⟨?_, ?_⟩ <;> omega
theorem toD_cons (k : Nat) (x v : Int) (hx : 0 ≤ x ∧ x < 18446744073709551616) : toD (k + 4) (x + 18446744073709551616 * v) = toD 4 x ++ toD k v := by
  simp only [toD, List.cons_append, List.nil_append, List.cons.injEq]
  refine ⟨by omega, by omega, by omega, by omega, ?_⟩
  congr 1
  omega
theorem fn56 : FnOk Tryd.prog GT 56 digC := by
  refine fnOk_ct (cxT_ok (fns := []) trivial) gT Tryd.func56 (c := body Tryd.f56) (by kernel_rfl) (enters_of Tryd.func56 (by kernel_rfl) (by kernel_rfl)) (bl := no) (fuel := 100) noBlT ?_
  intro xs hfit hp
  obtain ⟨a, rfl, ha⟩ := fit_l1 hfit
  have ua : U64 a := hp
  obtain ⟨a0, a1, a2, a3, rfl⟩ := len4 ha
  have hq := u64_4.1 ua
  obtain ⟨p0, p1, p2, p3⟩ := hq
  refine ⟨by simp [fit, fit1, toD_length], ?_⟩
  rw [run56]
  have e : toD 16 (val [a0, a1, a2, a3]) = toD 4 a0 ++ (toD 4 a1 ++ (toD 4 a2 ++ (toD 4 a3 ++ toD 0 0))) := by
    simp only [val]
    rw [toD_cons 12 a0 _ p0, toD_cons 8 a1 _ p1, toD_cons 4 a2 _ p2, toD_cons 0 a3 _ p3]
  rw [← dig4 a0 p0, ← dig4 a1 p1, ← dig4 a2 p2, ← dig4 a3 p3] at e
  simp only [outV, can1]
  rw [e]
  rfl
theorem fn19T : FnOk Tryd.prog GT 19 mulC := fn19 fn56
end Go.Proofs.YtdmphnfpcblfnaaDoor
