import Derived.Test.YtdmphnfpcblfnaaDoorFsS2
import Derived.Test.YtdmphnfpcblfnaaDoorFs8
/- Package scalar: contracts of its functions. -/
namespace Go.Proofs.YtdmphnfpcblfnaaDoor
open Go Go.Sx
set_option maxRecDepth 100000

def left1T (n : List Int) (k : List Int → T SV) : T SV := .need (U64 n) (k (toL 4 (val n % L25)))

/-! ### numbers -/
theorem run71 (b0 b1 b2 b3 b4 b5 b6 b7 b8 b9 b10 b11 b12 b13 b14 b15 b16 b17 b18 b19 b20 b21 b22 b23 b24 b25 b26 b27 b28 b29 b30 b31 b32 b33 b34 b35 b36 b37 b38 b39 b40 b41 b42 b43 b44 b45 b46 b47 b48 b49 b50 b51 b52 b53 b54 b55 b56 b57 b58 b59 b60 b61 b62 b63 : Int) : runX (cxF []) no 100 Tryd.f71 (body Tryd.f71) (can [.ints .u8 64] [.l [b0, b1, b2, b3, b4, b5, b6, b7, b8, b9, b10, b11, b12, b13, b14, b15, b16, b17, b18, b19, b20, b21, b22, b23, b24, b25, b26, b27, b28, b29, b30, b31, b32, b33, b34, b35, b36, b37, b38, b39, b40, b41, b42, b43, b44, b45, b46, b47, b48, b49, b50, b51, b52, b53, b54, b55, b56, b57, b58, b59, b60, b61, b62, b63]]) gmT = .ret (.ints .u64 8 [w8 b0 b1 b2 b3 b4 b5 b6 b7, w8 b8 b9 b10 b11 b12 b13 b14 b15, w8 b16 b17 b18 b19 b20 b21 b22 b23, w8 b24 b25 b26 b27 b28 b29 b30 b31, w8 b32 b33 b34 b35 b36 b37 b38 b39, w8 b40 b41 b42 b43 b44 b45 b46 b47, w8 b48 b49 b50 b51 b52 b53 b54 b55, w8 b56 b57 b58 b59 b60 b61 b62 b63]) := by kernel_rfl
theorem len64 {l : List Int} (h : l.length = 64) : ∃ b0 b1 b2 b3 b4 b5 b6 b7 b8 b9 b10 b11 b12 b13 b14 b15 b16 b17 b18 b19 b20 b21 b22 b23 b24 b25 b26 b27 b28 b29 b30 b31 b32 b33 b34 b35 b36 b37 b38 b39 b40 b41 b42 b43 b44 b45 b46 b47 b48 b49 b50 b51 b52 b53 b54 b55 b56 b57 b58 b59 b60 b61 b62 b63, l = [b0, b1, b2, b3, b4, b5, b6, b7, b8, b9, b10, b11, b12, b13, b14, b15, b16, b17, b18, b19, b20, b21, b22, b23, b24, b25, b26, b27, b28, b29, b30, b31, b32, b33, b34, b35, b36, b37, b38, b39, b40, b41, b42, b43, b44, b45, b46, b47, b48, b49, b50, b51, b52, b53, b54, b55, b56, b57, b58, b59, b60, b61, b62, b63] := by
  have h1 : (l.take 32).length = 32 := by rw [List.length_take]; omega
  have h2 : (l.drop 32).length = 32 := by rw [List.length_drop]; omega
  obtain ⟨b0, b1, b2, b3, b4, b5, b6, b7, b8, b9, b10, b11, b12, b13, b14, b15, b16, b17, b18, b19, b20, b21, b22, b23, b24, b25, b26, b27, b28, b29, b30, b31, e1⟩ := len32 h1
  obtain ⟨b32, b33, b34, b35, b36, b37, b38, b39, b40, b41, b42, b43, b44, b45, b46, b47, b48, b49, b50, b51, b52, b53, b54, b55, b56, b57, b58, b59, b60, b61, b62, b63, e2⟩ := len32 h2
  refine ⟨b0, b1, b2, b3, b4, b5, b6, b7, b8, b9, b10, b11, b12, b13, b14, b15, b16, b17, b18, b19, b20, b21, b22, b23, b24, b25, b26, b27, b28, b29, b30, b31, b32, b33, b34, b35, b36, b37, b38, b39, b40, b41, b42, b43, b44, b45, b46, b47, b48, b49, b50, b51, b52, b53, b54, b55, b56, b57, b58, b59, b60, b61, b62, b63, ?_⟩
  rw [← List.take_append_drop 32 l, e1, e2]
  rfl
abbrev numbersC : List SV → T SV := ct [.ints .u8 64] (fun | [.l b] => U8 b | _ => False) [i8] (fun | [.l b] => [.l (toL 8 (bv b))] | _ => [])
theorem fn71 : FnOk Tryd.prog GT 71 numbersC := by
  refine fnOk_ct (cxT_ok (fns := []) trivial) gT Tryd.func71 (c := body Tryd.f71) (by kernel_rfl) (enters_of Tryd.func71 (by kernel_rfl) (by kernel_rfl)) (bl := no) (fuel := 100) noBlT ?_
  intro xs hfit hp
  obtain ⟨b, rfl, hb⟩ := fit_l1 hfit
  have ub : U8 b := hp
  clear hp hfit
  obtain ⟨b0, b1, b2, b3, b4, b5, b6, b7, b8, b9, b10, b11, b12, b13, b14, b15, b16, b17, b18, b19, b20, b21, b22, b23, b24, b25, b26, b27, b28, b29, b30, b31, b32, b33, b34, b35, b36, b37, b38, b39, b40, b41, b42, b43, b44, b45, b46, b47, b48, b49, b50, b51, b52, b53, b54, b55, b56, b57, b58, b59, b60, b61, b62, b63, rfl⟩ := len64 hb
  have hs : [b0, b1, b2, b3, b4, b5, b6, b7, b8, b9, b10, b11, b12, b13, b14, b15, b16, b17, b18, b19, b20, b21, b22, b23, b24, b25, b26, b27, b28, b29, b30, b31, b32, b33, b34, b35, b36, b37, b38, b39, b40, b41, b42, b43, b44, b45, b46, b47, b48, b49, b50, b51, b52, b53, b54, b55, b56, b57, b58, b59, b60, b61, b62, b63] = [b0, b1, b2, b3, b4, b5, b6, b7] ++ ([b8, b9, b10, b11, b12, b13, b14, b15] ++ ([b16, b17, b18, b19, b20, b21, b22, b23] ++ ([b24, b25, b26, b27, b28, b29, b30, b31] ++ ([b32, b33, b34, b35, b36, b37, b38, b39] ++ ([b40, b41, b42, b43, b44, b45, b46, b47] ++ ([b48, b49, b50, b51, b52, b53, b54, b55] ++ ([b56, b57, b58, b59, b60, b61, b62, b63]))))))) := rfl
  have hu := ub
  rw [hs, U8.append, U8.append, U8.append, U8.append, U8.append, U8.append, U8.append] at hu
  obtain ⟨u0, u1, u2, u3, u4, u5, u6, u7⟩ := hu
  have r0 := bv8_range _ _ _ _ _ _ _ _ u0
  have r1 := bv8_range _ _ _ _ _ _ _ _ u1
  have r2 := bv8_range _ _ _ _ _ _ _ _ u2
  have r3 := bv8_range _ _ _ _ _ _ _ _ u3
  have r4 := bv8_range _ _ _ _ _ _ _ _ u4
  have r5 := bv8_range _ _ _ _ _ _ _ _ u5
  have r6 := bv8_range _ _ _ _ _ _ _ _ u6
  have r7 := bv8_range _ _ _ _ _ _ _ _ u7
  have hv : bv [b0, b1, b2, b3, b4, b5, b6, b7, b8, b9, b10, b11, b12, b13, b14, b15, b16, b17, b18, b19, b20, b21, b22, b23, b24, b25, b26, b27, b28, b29, b30, b31, b32, b33, b34, b35, b36, b37, b38, b39, b40, b41, b42, b43, b44, b45, b46, b47, b48, b49, b50, b51, b52, b53, b54, b55, b56, b57, b58, b59, b60, b61, b62, b63] = val [bv [b0, b1, b2, b3, b4, b5, b6, b7], bv [b8, b9, b10, b11, b12, b13, b14, b15], bv [b16, b17, b18, b19, b20, b21, b22, b23], bv [b24, b25, b26, b27, b28, b29, b30, b31], bv [b32, b33, b34, b35, b36, b37, b38, b39], bv [b40, b41, b42, b43, b44, b45, b46, b47], bv [b48, b49, b50, b51, b52, b53, b54, b55], bv [b56, b57, b58, b59, b60, b61, b62, b63]] := by
    rw [hs, bv_append8, bv_append8, bv_append8, bv_append8, bv_append8, bv_append8, bv_append8]
    simp only [val]
    omega
  have hw : U64 [bv [b0, b1, b2, b3, b4, b5, b6, b7], bv [b8, b9, b10, b11, b12, b13, b14, b15], bv [b16, b17, b18, b19, b20, b21, b22, b23], bv [b24, b25, b26, b27, b28, b29, b30, b31], bv [b32, b33, b34, b35, b36, b37, b38, b39], bv [b40, b41, b42, b43, b44, b45, b46, b47], bv [b48, b49, b50, b51, b52, b53, b54, b55], bv [b56, b57, b58, b59, b60, b61, b62, b63]] := u64_8 r0 r1 r2 r3 r4 r5 r6 r7
  have ht := toL_val hw
  rw [← hv] at ht
  refine ⟨by simp [fit, fit1, toL_length], ?_⟩
  rw [run71, w8_eq _ _ _ _ _ _ _ _ u0, w8_eq _ _ _ _ _ _ _ _ u1, w8_eq _ _ _ _ _ _ _ _ u2, w8_eq _ _ _ _ _ _ _ _ u3, w8_eq _ _ _ _ _ _ _ _ u4, w8_eq _ _ _ _ _ _ _ _ u5, w8_eq _ _ _ _ _ _ _ _ u6, w8_eq _ _ _ _ _ _ _ _ u7]
  simp only [T.good, outV, can1]
  rw [← ht]
  rfl
theorem fn71S : FnOk Tryd.prog GS 71 numbersC := fn71.mono fun _ _ => trivial

/-! ### Of, From, below -/
def num1T {α : Type} (b : List Int) (k : List Int → T α) : T α := .need (U8 b) (k (toL 8 (bv b)))
theorem run42 (b : List Int) : runX (cxF [(71, numbersC), (64, leftC)]) no 100 Tryd.f42 (body Tryd.f42) (can [.ints .u8 64] [.l b]) gmS = num1T b fun n => left1T n fun r => l11 r := by kernel_rfl
abbrev ofSC : List SV → T SV := ct [.ints .u8 64] (fun | [.l b] => U8 b | _ => False) [i4] (fun | [.l b] => [.l (toL 4 (bv b % L25))] | _ => [])
theorem bv_range : ∀ {l : List Int}, U8 l → 0 ≤ bv l ∧ bv l < 256 ^ l.length
  | [], _ => by simp [bv]
  | x :: l, h => by
    have h1 := h x (by simp)
    have h2 := bv_range (l := l) (fun y hy => h y (by simp [hy]))
    simp only [bv, List.length_cons, Int.pow_succ]
    omega
theorem val_toL8b (b : List Int) (h : U8 b) (hl : b.length = 64) : val (toL 8 (bv b)) = bv b := by
  have := bv_range h
  rw [hl] at this
  exact val_toL8 _ this.1 (by rw [show (256 : Int) ^ 64 = 13407807929942597099574024998205846127479365820592393377723561443721764030073546976801874298166903427690031858186486050853753882811946569946433649006084096 by decide +kernel] at this; exact this.2)
theorem fn42 : FnOk Tryd.prog GS 42 ofSC := by
  refine fnOk_ct (cxS_ok (fns := [(71, numbersC), (64, leftC)]) ⟨fn71S, fn64, trivial⟩) gS Tryd.func42 (c := body Tryd.f42) (by kernel_rfl) (enters_of Tryd.func42 (by kernel_rfl) (by kernel_rfl)) (bl := no) (fuel := 100) noBlS ?_
  intro xs hfit hp
  obtain ⟨b, rfl, hb⟩ := fit_l1 hfit
  have ub : U8 b := hp
  refine ⟨fit_i4 _, ?_⟩
  rw [run42]
  simp only [num1T, left1T, T.good]
  refine ⟨ub, toL_u64 _ _, ?_⟩
  rw [val_toL8b b ub hb]
  rfl
def z32 : List Int := List.replicate 32 0
theorem bv_z (l : List Int) (k : Nat) : bv (l ++ List.replicate k 0) = bv l := by
  induction l with
  | nil => induction k with
    | zero => rfl
    | succ k ih => simp only [List.nil_append, List.replicate_succ, bv] at *; rw [ih]; rfl
  | cons x l ih => simp only [List.cons_append, bv, ih]
def ofS1T {α : Type} (b : List Int) (k : List Int → T α) : T α := .need (U8 b) (k (toL 4 (bv b % L25)))
theorem run44 (b : List Int) : runX (cxF [(42, ofSC)]) no 100 Tryd.f44 (body Tryd.f44) (can [.ints .u8 32] [.l b]) gmS = ofS1T (splice (List.replicate 64 0) 0 b) fun r => l11 r := by kernel_rfl
theorem splice32 (b : List Int) (hb : b.length = 32) : splice (List.replicate 64 0) 0 b = b ++ List.replicate 32 0 := by
  simp [splice, hb]
theorem U8_z {b : List Int} (h : U8 b) (k : Nat) : U8 (b ++ List.replicate k 0) := U8.append.2 ⟨h, fun x hx => by rw [List.mem_replicate] at hx; omega⟩
abbrev fromSC : List SV → T SV := ct [.ints .u8 32] (fun | [.l b] => U8 b | _ => False) [i4] (fun | [.l b] => [.l (toL 4 (bv b % L25))] | _ => [])
theorem fn44 : FnOk Tryd.prog GS 44 fromSC := by
  refine fnOk_ct (cxS_ok (fns := [(42, ofSC)]) ⟨fn42, trivial⟩) gS Tryd.func44 (c := body Tryd.f44) (by kernel_rfl) (enters_of Tryd.func44 (by kernel_rfl) (by kernel_rfl)) (bl := no) (fuel := 100) noBlS ?_
  intro xs hfit hp
  obtain ⟨b, rfl, hb⟩ := fit_l1 hfit
  have ub : U8 b := hp
  refine ⟨fit_i4 _, ?_⟩
  rw [run44, splice32 b hb]
  simp only [ofS1T, T.good]
  refine ⟨U8_z ub 32, ?_⟩
  rw [bv_z]
  rfl
theorem run67 (a : List Int) : runX (cxF [(64, leftC)]) no 100 Tryd.f67 (body Tryd.f67) (can l1 [.l a]) gmS = left1T (splice (List.replicate 8 0) 0 a) fun r => l11 r := by kernel_rfl
theorem val_z (l : List Int) (k : Nat) : val (l ++ List.replicate k 0) = val l := by
  induction l with
  | nil => induction k with
    | zero => rfl
    | succ k ih => simp only [List.nil_append, List.replicate_succ, val] at *; rw [ih]; rfl
  | cons x l ih => simp only [List.cons_append, val, ih]
abbrev belowSC : List SV → T SV := ct l1 (fun | [.l a] => U64 a | _ => False) [i4] (fun | [.l a] => [.l (toL 4 (val a % L25))] | _ => [])
theorem fn67 : FnOk Tryd.prog GS 67 belowSC := by
  refine fnOk_ct (cxS_ok (fns := [(64, leftC)]) ⟨fn64, trivial⟩) gS Tryd.func67 (c := body Tryd.f67) (by kernel_rfl) (enters_of Tryd.func67 (by kernel_rfl) (by kernel_rfl)) (bl := no) (fuel := 100) noBlS ?_
  intro xs hfit hp
  obtain ⟨a, rfl, ha⟩ := fit_l1 hfit
  have ua : U64 a := hp
  refine ⟨fit_i4 _, ?_⟩
  rw [run67, show splice (List.replicate 8 0) 0 a = a ++ List.replicate 4 0 by simp [splice, ha]]
  simp only [left1T, T.good]
  refine ⟨fun x hx => ?_, ?_⟩
  · rcases List.mem_append.1 hx with hx | hx
    · exact ua x hx
    · rw [List.mem_replicate] at hx; omega
  · rw [val_z]
    rfl

/-! ### Add, Mul -/
def a64T (x y c : Int) (k : Int → Int → T SV) : T SV := .need (0 ≤ x ∧ 0 ≤ y ∧ 0 ≤ c ∧ c ≤ 1) (k ((x + y + c) % 18446744073709551616) ((x + y + c) / 18446744073709551616))
def mul64T (x y : Int) (k : Int → Int → T SV) : T SV := .need ((0 ≤ x ∧ x < 18446744073709551616) ∧ (0 ≤ y ∧ y < 18446744073709551616)) (k (x * y / 18446744073709551616) (x * y % 18446744073709551616))
theorem run36 (x0 x1 x2 x3 y0 y1 y2 y3 : Int) : runX (cxF [(64, leftC)]) no 100 Tryd.f36 (body Tryd.f36) (can l2 [.l [x0, x1, x2, x3], .l [y0, y1, y2, y3]]) gmS =
  (a64T x0 y0 0 fun r0 c => a64T x1 y1 c fun r1 c => a64T x2 y2 c fun r2 c => a64T x3 y3 c fun r3 c => left1T [r0, r1, r2, r3, c, 0, 0, 0] fun r => l11 r) := by kernel_rfl
abbrev addSC : List SV → T SV := ct l2 (fun | [.l a, .l b] => U64 a ∧ U64 b | _ => False) [i4] (fun | [.l a, .l b] => [.l (toL 4 ((val a + val b) % L25))] | _ => [])
theorem fn36 : FnOk Tryd.prog GS 36 addSC := by
  refine fnOk_ct (cxS_ok (fns := [(64, leftC)]) ⟨fn64, trivial⟩) gS Tryd.func36 (c := body Tryd.f36) (by kernel_rfl) (enters_of Tryd.func36 (by kernel_rfl) (by kernel_rfl)) (bl := no) (fuel := 100) noBlS ?_
  intro xs hfit hp
  obtain ⟨a, b, rfl, ha, hb⟩ := fit_l2 hfit
  obtain ⟨x0, x1, x2, x3, rfl⟩ := len4 ha
  obtain ⟨y0, y1, y2, y3, rfl⟩ := len4 hb
  obtain ⟨u1, u2⟩ := hp
  have hq := u64_4.1 u1
  obtain ⟨a0, a1, a2, a3⟩ := hq
  have hq := u64_4.1 u2
  obtain ⟨b0, b1, b2, b3⟩ := hq
  refine ⟨fit_i4 _, ?_⟩
  rw [run36]
  simp only [a64T, left1T, T.good]
  have e : val [(x0 + y0 + 0) % 18446744073709551616, (x1 + y1 + (x0 + y0 + 0) / 18446744073709551616) % 18446744073709551616, (x2 + y2 + (x1 + y1 + (x0 + y0 + 0) / 18446744073709551616) / 18446744073709551616) % 18446744073709551616, (x3 + y3 + (x2 + y2 + (x1 + y1 + (x0 + y0 + 0) / 18446744073709551616) / 18446744073709551616) / 18446744073709551616) % 18446744073709551616,
      (x3 + y3 + (x2 + y2 + (x1 + y1 + (x0 + y0 + 0) / 18446744073709551616) / 18446744073709551616) / 18446744073709551616) / 18446744073709551616, 0, 0, 0] = val [x0, x1, x2, x3] + val [y0, y1, y2, y3] := by
    simp only [val]; omega
  rw [e]
  refine ⟨by omega, by omega, by omega, by omega, u64_8 (by omega) (by omega) (by omega) (by omega) (by omega) (by omega) (by omega) (by omega), rfl⟩

def mstepT (a b c d : Int) (k : Int → Int → T SV) : T SV :=
  mul64T a b fun hi lo => a64T lo c 0 fun lo1 c1 => a64T lo1 d 0 fun lo2 c2 => k lo2 (IntKind.u64.wrap (IntKind.u64.wrap (hi + c1) + c2))
theorem mstepT_good {a b c d : Int} {k : Int → Int → T SV} {Q : SV → Prop} (ha : 0 ≤ a ∧ a < 18446744073709551616) (hb : 0 ≤ b ∧ b < 18446744073709551616) (hc : 0 ≤ c ∧ c < 18446744073709551616) (hd : 0 ≤ d ∧ d < 18446744073709551616)
    (h : ∀ lo hi, (0 ≤ lo ∧ lo < 18446744073709551616) → (0 ≤ hi ∧ hi < 18446744073709551616) → lo + 18446744073709551616 * hi = a * b + c + d → (k lo hi).good Q) : (mstepT a b c d k).good Q := by
  have hm := mulDivMod a b c d ha hb hc hd
  simp only [mstepT, mul64T, a64T, T.good, wrap_u64]
  generalize a * b = m at *
  refine ⟨⟨ha, hb⟩, by omega, by omega, h _ _ ?_ ?_ ?_⟩ <;> omega

def prodM (x0 x1 x2 x3 y0 y1 y2 y3 : Int) : T SV :=
  mstepT x0 y0 0 0 fun l00 h00 =>
  mstepT x0 y1 0 h00 fun l01 h01 =>
  mstepT x0 y2 0 h01 fun l02 h02 =>
  mstepT x0 y3 0 h02 fun l03 h03 =>
  mstepT x1 y0 l01 0 fun l10 h10 =>
  mstepT x1 y1 l02 h10 fun l11 h11 =>
  mstepT x1 y2 l03 h11 fun l12 h12 =>
  mstepT x1 y3 h03 h12 fun l13 h13 =>
  mstepT x2 y0 l11 0 fun l20 h20 =>
  mstepT x2 y1 l12 h20 fun l21 h21 =>
  mstepT x2 y2 l13 h21 fun l22 h22 =>
  mstepT x2 y3 h13 h22 fun l23 h23 =>
  mstepT x3 y0 l21 0 fun l30 h30 =>
  mstepT x3 y1 l22 h30 fun l31 h31 =>
  mstepT x3 y2 l23 h31 fun l32 h32 =>
  mstepT x3 y3 h23 h32 fun l33 h33 =>
  left1T [l00, l10, l20, l30, l31, l32, l33, h33] fun r => .ret (.ints .u64 4 r)
theorem run38 (x0 x1 x2 x3 y0 y1 y2 y3 : Int) : runX (cxF [(66, spG n2 mul64F), (64, leftC)]) no 100 Tryd.f38 (body Tryd.f38) (can l2 [.l [x0, x1, x2, x3], .l [y0, y1, y2, y3]]) gmS = prodM x0 x1 x2 x3 y0 y1 y2 y3 := by kernel_rfl
theorem prodM_good (x0 x1 x2 x3 y0 y1 y2 y3 : Int) (bx0 : 0 ≤ x0 ∧ x0 < 18446744073709551616) (bx1 : 0 ≤ x1 ∧ x1 < 18446744073709551616) (bx2 : 0 ≤ x2 ∧ x2 < 18446744073709551616) (bx3 : 0 ≤ x3 ∧ x3 < 18446744073709551616) (by0 : 0 ≤ y0 ∧ y0 < 18446744073709551616) (by1 : 0 ≤ y1 ∧ y1 < 18446744073709551616) (by2 : 0 ≤ y2 ∧ y2 < 18446744073709551616) (by3 : 0 ≤ y3 ∧ y3 < 18446744073709551616) : (prodM x0 x1 x2 x3 y0 y1 y2 y3).good fun u => u = .ints .u64 4 (toL 4 (val [x0, x1, x2, x3] * val [y0, y1, y2, y3] % L25)) := by
  have b0 : 0 ≤ (0 : Int) ∧ (0 : Int) < 18446744073709551616 := by omega
  unfold prodM
  refine mstepT_good bx0 by0 b0 b0 fun l00 h00 bl00 bh00 el00 => ?_
  refine mstepT_good bx0 by1 b0 bh00 fun l01 h01 bl01 bh01 el01 => ?_
  refine mstepT_good bx0 by2 b0 bh01 fun l02 h02 bl02 bh02 el02 => ?_
  refine mstepT_good bx0 by3 b0 bh02 fun l03 h03 bl03 bh03 el03 => ?_
  refine mstepT_good bx1 by0 bl01 b0 fun l10 h10 bl10 bh10 el10 => ?_
  refine mstepT_good bx1 by1 bl02 bh10 fun l11 h11 bl11 bh11 el11 => ?_
  refine mstepT_good bx1 by2 bl03 bh11 fun l12 h12 bl12 bh12 el12 => ?_
  refine mstepT_good bx1 by3 bh03 bh12 fun l13 h13 bl13 bh13 el13 => ?_
  refine mstepT_good bx2 by0 bl11 b0 fun l20 h20 bl20 bh20 el20 => ?_
  refine mstepT_good bx2 by1 bl12 bh20 fun l21 h21 bl21 bh21 el21 => ?_
  refine mstepT_good bx2 by2 bl13 bh21 fun l22 h22 bl22 bh22 el22 => ?_
  refine mstepT_good bx2 by3 bh13 bh22 fun l23 h23 bl23 bh23 el23 => ?_
  refine mstepT_good bx3 by0 bl21 b0 fun l30 h30 bl30 bh30 el30 => ?_
  refine mstepT_good bx3 by1 bl22 bh30 fun l31 h31 bl31 bh31 el31 => ?_
  refine mstepT_good bx3 by2 bl23 bh31 fun l32 h32 bl32 bh32 el32 => ?_
  refine mstepT_good bx3 by3 bh23 bh32 fun l33 h33 bl33 bh33 el33 => ?_
  simp only [left1T, T.good]
  have hu : U64 [l00, l10, l20, l30, l31, l32, l33, h33] := u64_8 bl00 bl10 bl20 bl30 bl31 bl32 bl33 bh33
  refine ⟨hu, ?_⟩
  rw [show val [x0, x1, x2, x3] * val [y0, y1, y2, y3] = val [l00, l10, l20, l30, l31, l32, l33, h33] from ?_]
  have e : val [x0, x1, x2, x3] * val [y0, y1, y2, y3] = 1 * (x0 * y0) + 18446744073709551616 * (x0 * y1) + 340282366920938463463374607431768211456 * (x0 * y2) + 6277101735386680763835789423207666416102355444464034512896 * (x0 * y3) + 18446744073709551616 * (x1 * y0) + 340282366920938463463374607431768211456 * (x1 * y1) + 6277101735386680763835789423207666416102355444464034512896 * (x1 * y2) + 115792089237316195423570985008687907853269984665640564039457584007913129639936 * (x1 * y3) + 340282366920938463463374607431768211456 * (x2 * y0) + 6277101735386680763835789423207666416102355444464034512896 * (x2 * y1) + 115792089237316195423570985008687907853269984665640564039457584007913129639936 * (x2 * y2) + 2135987035920910082395021706169552114602704522356652769947041607822219725780640550022962086936576 * (x2 * y3) + 6277101735386680763835789423207666416102355444464034512896 * (x3 * y0) + 115792089237316195423570985008687907853269984665640564039457584007913129639936 * (x3 * y1) + 2135987035920910082395021706169552114602704522356652769947041607822219725780640550022962086936576 * (x3 * y2) + 39402006196394479212279040100143613805079739270465446667948293404245721771497210611414266254884915640806627990306816 * (x3 * y3) := mul44 x0 x1 x2 x3 y0 y1 y2 y3
  rw [e]; clear e hu
  simp only [val]
  generalize x0 * y0 = p00 at *
  generalize x0 * y1 = p01 at *
  generalize x0 * y2 = p02 at *
  generalize x0 * y3 = p03 at *
  generalize x1 * y0 = p10 at *
  generalize x1 * y1 = p11 at *
  generalize x1 * y2 = p12 at *
  generalize x1 * y3 = p13 at *
  generalize x2 * y0 = p20 at *
  generalize x2 * y1 = p21 at *
  generalize x2 * y2 = p22 at *
  generalize x2 * y3 = p23 at *
  generalize x3 * y0 = p30 at *
  generalize x3 * y1 = p31 at *
  generalize x3 * y2 = p32 at *
  generalize x3 * y3 = p33 at *
  omega
abbrev mulSC : List SV → T SV := ct l2 (fun | [.l a, .l b] => U64 a ∧ U64 b | _ => False) [i4] (fun | [.l a, .l b] => [.l (toL 4 ((val a * val b) % L25))] | _ => [])
theorem fn66S : FnOk Tryd.prog GS 66 (spG n2 mul64F) := fn66T.mono fun _ _ => trivial
theorem fn38 : FnOk Tryd.prog GS 38 mulSC := by
  refine fnOk_ct (cxS_ok (fns := [(66, spG n2 mul64F), (64, leftC)]) ⟨fn66S, fn64, trivial⟩) gS Tryd.func38 (c := body Tryd.f38) (by kernel_rfl) (enters_of Tryd.func38 (by kernel_rfl) (by kernel_rfl)) (bl := no) (fuel := 100) noBlS ?_
  intro xs hfit hp
  obtain ⟨a, b, rfl, ha, hb⟩ := fit_l2 hfit
  obtain ⟨x0, x1, x2, x3, rfl⟩ := len4 ha
  obtain ⟨y0, y1, y2, y3, rfl⟩ := len4 hb
  obtain ⟨u1, u2⟩ := hp
  have u1 := u64_4.1 u1
  have u2 := u64_4.1 u2
  refine ⟨fit_i4 _, ?_⟩
  rw [run38]
  exact prodM_good x0 x1 x2 x3 y0 y1 y2 y3 u1.1 u1.2.1 u1.2.2.1 u1.2.2.2 u2.1 u2.2.1 u2.2.2.1 u2.2.2.2
end Go.Proofs.YtdmphnfpcblfnaaDoor
