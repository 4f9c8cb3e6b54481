import Derived.Test.YtdmphnfpcblfnaaDoorFs7
namespace Go.Proofs.YtdmphnfpcblfnaaDoor
open Go Go.Sx
set_option maxRecDepth 100000

/-- Eight bytes, put together. -/
def w8 (b0 b1 b2 b3 b4 b5 b6 b7 : Int) : Int :=
  let g (a b : Int) (k : Int) : Int := bitsI .or .u64 a (shlI .u64 (IntKind.u64.wrap b) k)
  g (g (g (g (g (g (g (g 0 b0 0) b1 8) b2 16) b3 24) b4 32) b5 40) b6 48) b7 56

theorem run22 (b0 b1 b2 b3 b4 b5 b6 b7 b8 b9 b10 b11 b12 b13 b14 b15 b16 b17 b18 b19 b20 b21 b22 b23 b24 b25 b26 b27 b28 b29 b30 b31 : Int) : runX (cxF [(52, belowC)]) no 100 Tryd.f22 (body Tryd.f22) (can [.ints .u8 32] [.l [b0, b1, b2, b3, b4, b5, b6, b7, b8, b9, b10, b11, b12, b13, b14, b15, b16, b17, b18, b19, b20, b21, b22, b23, b24, b25, b26, b27, b28, b29, b30, b31]]) gmF = belT [w8 b0 b1 b2 b3 b4 b5 b6 b7, w8 b8 b9 b10 b11 b12 b13 b14 b15, w8 b16 b17 b18 b19 b20 b21 b22 b23, w8 b24 b25 b26 b27 b28 b29 b30 b31] fun r => l11 r := by kernel_rfl
theorem run24 (a : List Int) : runX (cxF [(52, belowC)]) no 100 Tryd.f24 (body Tryd.f24) (can l1 [.l a]) gmF = belT a fun a => .ret (.ints .u8 32 [IntKind.u8.wrap (shrI .u64 (a.getD 0 0) 0), IntKind.u8.wrap (shrI .u64 (a.getD 0 0) 8), IntKind.u8.wrap (shrI .u64 (a.getD 0 0) 16), IntKind.u8.wrap (shrI .u64 (a.getD 0 0) 24), IntKind.u8.wrap (shrI .u64 (a.getD 0 0) 32), IntKind.u8.wrap (shrI .u64 (a.getD 0 0) 40), IntKind.u8.wrap (shrI .u64 (a.getD 0 0) 48), IntKind.u8.wrap (shrI .u64 (a.getD 0 0) 56), IntKind.u8.wrap (shrI .u64 (a.getD 1 0) 0), IntKind.u8.wrap (shrI .u64 (a.getD 1 0) 8), IntKind.u8.wrap (shrI .u64 (a.getD 1 0) 16), IntKind.u8.wrap (shrI .u64 (a.getD 1 0) 24), IntKind.u8.wrap (shrI .u64 (a.getD 1 0) 32), IntKind.u8.wrap (shrI .u64 (a.getD 1 0) 40), IntKind.u8.wrap (shrI .u64 (a.getD 1 0) 48), IntKind.u8.wrap (shrI .u64 (a.getD 1 0) 56), IntKind.u8.wrap (shrI .u64 (a.getD 2 0) 0), IntKind.u8.wrap (shrI .u64 (a.getD 2 0) 8), IntKind.u8.wrap (shrI .u64 (a.getD 2 0) 16), IntKind.u8.wrap (shrI .u64 (a.getD 2 0) 24), IntKind.u8.wrap (shrI .u64 (a.getD 2 0) 32), IntKind.u8.wrap (shrI .u64 (a.getD 2 0) 40), IntKind.u8.wrap (shrI .u64 (a.getD 2 0) 48), IntKind.u8.wrap (shrI .u64 (a.getD 2 0) 56), IntKind.u8.wrap (shrI .u64 (a.getD 3 0) 0), IntKind.u8.wrap (shrI .u64 (a.getD 3 0) 8), IntKind.u8.wrap (shrI .u64 (a.getD 3 0) 16), IntKind.u8.wrap (shrI .u64 (a.getD 3 0) 24), IntKind.u8.wrap (shrI .u64 (a.getD 3 0) 32), IntKind.u8.wrap (shrI .u64 (a.getD 3 0) 40), IntKind.u8.wrap (shrI .u64 (a.getD 3 0) 48), IntKind.u8.wrap (shrI .u64 (a.getD 3 0) 56)]) := by kernel_rfl
/-- Bytes as a number, the lowest first; and back. -/
def bv : List Int → Int
  | [] => 0
  | x :: l => x + 256 * bv l
def toB : Nat → Int → List Int
  | 0, _ => []
  | k + 1, n => n % 256 :: toB k (n / 256)
def U8 (l : List Int) : Prop := ∀ x ∈ l, 0 ≤ x ∧ x < 256

theorem toB_length (k : Nat) (n : Int) : (toB k n).length = k := by induction k generalizing n <;> simp [toB, *]

theorem or_add (a b : Int) (k : Nat) (ha : 0 ≤ a ∧ a < 2 ^ k) (hb : 0 ≤ b ∧ b < 256) (hk : k ≤ 56) : bitsI .or .u64 a (shlI .u64 (IntKind.u64.wrap b) (k : Int)) = a + 2 ^ k * b := by
  obtain ⟨A, rfl⟩ := Int.eq_ofNat_of_zero_le ha.1
  obtain ⟨B, rfl⟩ := Int.eq_ofNat_of_zero_le hb.1
  have hA : A < 2 ^ k := by have := ha.2; rw [show (2 : Int) ^ k = ((2 ^ k : Nat) : Int) by simp] at this; omega
  have hB : B < 256 := by omega
  have h2 : (2 : Nat) ^ k ≤ 2 ^ 56 := Nat.pow_le_pow_right (by decide) hk
  have hp : 2 ^ k * B < 18446744073709551616 := by
    have : 2 ^ k * B ≤ 2 ^ 56 * 255 := Nat.mul_le_mul h2 (by omega)
    omega
  have e : shlI .u64 (IntKind.u64.wrap (B : Int)) (k : Int) = ((2 ^ k * B : Nat) : Int) := by
    rw [wrap_u64, Int.emod_eq_of_lt (by omega) (by omega)]
    simp only [shlI, IntKind.bits, Int.toNat_natCast, Nat.min_eq_left (show k ≤ 64 by omega), wrap_u64]
    rw [show (B : Int) * 2 ^ k = ((2 ^ k * B : Nat) : Int) by simp [Int.mul_comm]]
    exact Int.emod_eq_of_lt (by omega) (by omega)
  rw [e]
  have e2 : bitsI .or .u64 (A : Int) ((2 ^ k * B : Nat) : Int) = ((A ||| 2 ^ k * B : Nat) : Int) := u64_or_nat A (2 ^ k * B) (by omega) hp
  rw [e2, Nat.or_comm, ← Nat.two_pow_add_eq_or_of_lt hA]
  simp
  omega

theorem w8_eq (b0 b1 b2 b3 b4 b5 b6 b7 : Int) (h : U8 [b0, b1, b2, b3, b4, b5, b6, b7]) : w8 b0 b1 b2 b3 b4 b5 b6 b7 = bv [b0, b1, b2, b3, b4, b5, b6, b7] := by
  simp only [U8, List.mem_cons, List.not_mem_nil, or_false, forall_eq_or_imp, forall_eq] at h
  obtain ⟨h0, h1, h2, h3, h4, h5, h6, h7⟩ := h
  simp only [w8]
  have e0 := or_add 0 b0 0 (by omega) h0 (by omega)
  have e1 := or_add (b0) b1 8 (by omega) h1 (by omega)
  have e2 := or_add (b0 + 256 * b1) b2 16 (by omega) h2 (by omega)
  have e3 := or_add (b0 + 256 * b1 + 65536 * b2) b3 24 (by omega) h3 (by omega)
  have e4 := or_add (b0 + 256 * b1 + 65536 * b2 + 16777216 * b3) b4 32 (by omega) h4 (by omega)
  have e5 := or_add (b0 + 256 * b1 + 65536 * b2 + 16777216 * b3 + 4294967296 * b4) b5 40 (by omega) h5 (by omega)
  have e6 := or_add (b0 + 256 * b1 + 65536 * b2 + 16777216 * b3 + 4294967296 * b4 + 1099511627776 * b5) b6 48 (by omega) h6 (by omega)
  have e7 := or_add (b0 + 256 * b1 + 65536 * b2 + 16777216 * b3 + 4294967296 * b4 + 1099511627776 * b5 + 281474976710656 * b6) b7 56 (by omega) h7 (by omega)
  simp only [Int.reducePow, Int.zero_add, Int.one_mul, Int.pow_zero, Int.natCast_zero, Int.cast_ofNat_Int] at e0 e1 e2 e3 e4 e5 e6 e7
  rw [e0, e1, e2, e3, e4, e5, e6, e7]
  simp only [bv]
  omega

theorem len32 {l : List Int} (h : l.length = 32) : ∃ b0 b1 b2 b3 b4 b5 b6 b7 b8 b9 b10 b11 b12 b13 b14 b15 b16 b17 b18 b19 b20 b21 b22 b23 b24 b25 b26 b27 b28 b29 b30 b31, l = [b0, b1, b2, b3, b4, b5, b6, b7, b8, b9, b10, b11, b12, b13, b14, b15, b16, b17, b18, b19, b20, b21, b22, b23, b24, b25, b26, b27, b28, b29, b30, b31] := by
  match l, h with
  | [b0, b1, b2, b3, b4, b5, b6, b7, b8, b9, b10, b11, b12, b13, b14, b15, b16, b17, b18, b19, b20, b21, b22, b23, b24, b25, b26, b27, b28, b29, b30, b31], _ => exact ⟨b0, b1, b2, b3, b4, b5, b6, b7, b8, b9, b10, b11, b12, b13, b14, b15, b16, b17, b18, b19, b20, b21, b22, b23, b24, b25, b26, b27, b28, b29, b30, b31, rfl⟩

theorem bv8_range (b0 b1 b2 b3 b4 b5 b6 b7 : Int) (h : U8 [b0, b1, b2, b3, b4, b5, b6, b7]) : 0 ≤ bv [b0, b1, b2, b3, b4, b5, b6, b7] ∧ bv [b0, b1, b2, b3, b4, b5, b6, b7] < 18446744073709551616 := by
  simp only [U8, List.mem_cons, List.not_mem_nil, or_false, forall_eq_or_imp, forall_eq] at h
  simp only [bv]
  omega

theorem U8.append {a b : List Int} : U8 (a ++ b) ↔ U8 a ∧ U8 b := by
  simp only [U8, List.mem_append]
  exact ⟨fun h => ⟨fun x hx => h x (.inl hx), fun x hx => h x (.inr hx)⟩, fun h x hx => hx.elim (h.1 x) (h.2 x)⟩
theorem bv_append8 (b0 b1 b2 b3 b4 b5 b6 b7 : Int) (l : List Int) : bv ([b0, b1, b2, b3, b4, b5, b6, b7] ++ l) = bv [b0, b1, b2, b3, b4, b5, b6, b7] + 18446744073709551616 * bv l := by
  simp only [List.cons_append, List.nil_append, bv]
  omega

abbrev ofC : List SV → T SV := ct [.ints .u8 32] (fun | [.l b] => U8 b | _ => False) [i4] (fun | [.l b] => [.l (toL 4 (bv b % P25))] | _ => [])
theorem fn22 : FnOk Tryd.prog GF 22 ofC := by
  refine fnOk_ct (cxF_ok (fns := [(52, belowC)]) ⟨fn52, trivial⟩) gF Tryd.func22 (c := body Tryd.f22) (by kernel_rfl) (enters_of Tryd.func22 (by kernel_rfl) (by kernel_rfl)) (bl := no) (fuel := 100) noBl ?_
  intro xs hfit hp
  obtain ⟨b, rfl, hb⟩ := fit_l1 hfit
  have ub : U8 b := hp
  clear hp hfit
  obtain ⟨b0, b1, b2, b3, b4, b5, b6, b7, b8, b9, b10, b11, b12, b13, b14, b15, b16, b17, b18, b19, b20, b21, b22, b23, b24, b25, b26, b27, b28, b29, b30, b31, rfl⟩ := len32 hb
  have hs : [b0, b1, b2, b3, b4, b5, b6, b7, b8, b9, b10, b11, b12, b13, b14, b15, b16, b17, b18, b19, b20, b21, b22, b23, b24, b25, b26, b27, b28, b29, b30, b31] = [b0, b1, b2, b3, b4, b5, b6, b7] ++ ([b8, b9, b10, b11, b12, b13, b14, b15] ++ ([b16, b17, b18, b19, b20, b21, b22, b23] ++ [b24, b25, b26, b27, b28, b29, b30, b31])) := rfl
  have hu := ub
  rw [hs, U8.append, U8.append, U8.append] at hu
  obtain ⟨u0, u1, u2, u3⟩ := hu
  have r0 := bv8_range _ _ _ _ _ _ _ _ u0
  have r1 := bv8_range _ _ _ _ _ _ _ _ u1
  have r2 := bv8_range _ _ _ _ _ _ _ _ u2
  have r3 := bv8_range _ _ _ _ _ _ _ _ u3
  have hv : bv [b0, b1, b2, b3, b4, b5, b6, b7, b8, b9, b10, b11, b12, b13, b14, b15, b16, b17, b18, b19, b20, b21, b22, b23, b24, b25, b26, b27, b28, b29, b30, b31] = val [bv [b0, b1, b2, b3, b4, b5, b6, b7], bv [b8, b9, b10, b11, b12, b13, b14, b15], bv [b16, b17, b18, b19, b20, b21, b22, b23], bv [b24, b25, b26, b27, b28, b29, b30, b31]] := by
    rw [hs, bv_append8, bv_append8, bv_append8]
    simp only [val]
    omega
  refine ⟨fit_i4 _, ?_⟩
  rw [run22, w8_eq _ _ _ _ _ _ _ _ u0, w8_eq _ _ _ _ _ _ _ _ u1, w8_eq _ _ _ _ _ _ _ _ u2, w8_eq _ _ _ _ _ _ _ _ u3]
  simp only [belT, T.good]
  refine ⟨u64_4.2 ⟨r0, r1, r2, r3⟩, ?_⟩
  rw [← hv]
  rfl

theorem toB_add : ∀ (j k : Nat) (n : Int), toB (j + k) n = toB j n ++ toB k (n / 256 ^ j)
  | 0, k, n => by simp [toB]
  | j + 1, k, n => by
    rw [show j + 1 + k = (j + k) + 1 by omega]
    simp only [toB, List.cons_append]
    rw [toB_add j k (n / 256), Int.ediv_ediv_of_nonneg (by decide), Int.pow_succ, Int.mul_comm 256]

theorem u8wrap (x : Int) : IntKind.u8.wrap x = x % 256 := by simp [IntKind.wrap, IntKind.bits, IntKind.signed]

theorem word_bytes (x : Int) : [IntKind.u8.wrap (shrI .u64 (x % 18446744073709551616) 0), IntKind.u8.wrap (shrI .u64 (x % 18446744073709551616) 8), IntKind.u8.wrap (shrI .u64 (x % 18446744073709551616) 16), IntKind.u8.wrap (shrI .u64 (x % 18446744073709551616) 24), IntKind.u8.wrap (shrI .u64 (x % 18446744073709551616) 32), IntKind.u8.wrap (shrI .u64 (x % 18446744073709551616) 40), IntKind.u8.wrap (shrI .u64 (x % 18446744073709551616) 48), IntKind.u8.wrap (shrI .u64 (x % 18446744073709551616) 56)] = toB 8 x := by
  have s (k : Nat) (hk : k ≤ 64) (y : Int) : shrI .u64 y (k : Int) = y / 2 ^ k := shrI_u64 y k hk
  have s0 := s 0 (by omega) (x % 18446744073709551616)
  have s1 := s 8 (by omega) (x % 18446744073709551616)
  have s2 := s 16 (by omega) (x % 18446744073709551616)
  have s3 := s 24 (by omega) (x % 18446744073709551616)
  have s4 := s 32 (by omega) (x % 18446744073709551616)
  have s5 := s 40 (by omega) (x % 18446744073709551616)
  have s6 := s 48 (by omega) (x % 18446744073709551616)
  have s7 := s 56 (by omega) (x % 18446744073709551616)
  simp only [Int.cast_ofNat_Int, Int.natCast_zero, Int.reducePow, Int.pow_zero] at s0 s1 s2 s3 s4 s5 s6 s7
  rw [s0, s1, s2, s3, s4, s5, s6, s7]
  simp only [u8wrap, toB, List.cons.injEq, and_true]
  refine ⟨?_, ?_, ?_, ?_, ?_, ?_, ?_, ?_⟩ <;> omega

abbrev bytesC : List SV → T SV := ct l1 (fun | [.l a] => U64 a | _ => False) [.ints .u8 32] (fun | [.l a] => [.l (toB 32 (val a % P25))] | _ => [])
theorem fn24 : FnOk Tryd.prog GF 24 bytesC := by
  refine fnOk_ct (cxF_ok (fns := [(52, belowC)]) ⟨fn52, trivial⟩) gF Tryd.func24 (c := body Tryd.f24) (by kernel_rfl) (enters_of Tryd.func24 (by kernel_rfl) (by kernel_rfl)) (bl := no) (fuel := 100) noBl ?_
  intro xs hfit hp
  obtain ⟨a, rfl, ha⟩ := fit_l1 hfit
  have ua : U64 a := hp
  refine ⟨by simp [fit, fit1, toB_length], ?_⟩
  rw [run24]
  simp only [belT, T.good]
  refine ⟨ua, ?_⟩
  generalize val a % P25 = N
  have e : toB 32 N = toB 8 N ++ (toB 8 (N / 18446744073709551616) ++ (toB 8 (N / 18446744073709551616 / 18446744073709551616) ++ toB 8 (N / 18446744073709551616 / 18446744073709551616 / 18446744073709551616))) := by
    rw [show (32 : Nat) = 8 + (8 + (8 + 8)) from rfl, toB_add, toB_add, toB_add]
    rfl
  simp only [outV, can1]
  rw [e, ← word_bytes N, ← word_bytes (N / _), ← word_bytes (N / _ / _), ← word_bytes (N / _ / _ / _)]
  rfl
end Go.Proofs.YtdmphnfpcblfnaaDoor
