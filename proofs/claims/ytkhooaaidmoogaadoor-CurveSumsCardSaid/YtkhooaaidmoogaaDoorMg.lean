import Derived.Test.YtkhooaaidmoogaaDoorMf
import Derived.Test.YtkhooaaidmoogaaDoorMd
/- Package scalar: Bytes, Check, Neg; awake; the laws without the document's answer. -/
namespace Go.Proofs.YtkhooaaidmoogaaDoor
open Go Go.Sx
set_option maxRecDepth 100000

def belS (a : List Int) (k : List Int → T SV) : T SV := .need (U64 a) (k (toL 4 (val a % L25)))
theorem run46 (a : List Int) : runX (cxF [(52, belowSC)]) no 100 Tryd.f47 (body Tryd.f47) (can l1 [.l a]) gmS = belS a fun a => .ret (.ints .u8 32 [IntKind.u8.wrap (shrI .u64 (a.getD 0 0) 0), IntKind.u8.wrap (shrI .u64 (a.getD 0 0) 8), IntKind.u8.wrap (shrI .u64 (a.getD 0 0) 16), IntKind.u8.wrap (shrI .u64 (a.getD 0 0) 24), IntKind.u8.wrap (shrI .u64 (a.getD 0 0) 32), IntKind.u8.wrap (shrI .u64 (a.getD 0 0) 40), IntKind.u8.wrap (shrI .u64 (a.getD 0 0) 48), IntKind.u8.wrap (shrI .u64 (a.getD 0 0) 56), IntKind.u8.wrap (shrI .u64 (a.getD 1 0) 0), IntKind.u8.wrap (shrI .u64 (a.getD 1 0) 8), IntKind.u8.wrap (shrI .u64 (a.getD 1 0) 16), IntKind.u8.wrap (shrI .u64 (a.getD 1 0) 24), IntKind.u8.wrap (shrI .u64 (a.getD 1 0) 32), IntKind.u8.wrap (shrI .u64 (a.getD 1 0) 40), IntKind.u8.wrap (shrI .u64 (a.getD 1 0) 48), IntKind.u8.wrap (shrI .u64 (a.getD 1 0) 56), IntKind.u8.wrap (shrI .u64 (a.getD 2 0) 0), IntKind.u8.wrap (shrI .u64 (a.getD 2 0) 8), IntKind.u8.wrap (shrI .u64 (a.getD 2 0) 16), IntKind.u8.wrap (shrI .u64 (a.getD 2 0) 24), IntKind.u8.wrap (shrI .u64 (a.getD 2 0) 32), IntKind.u8.wrap (shrI .u64 (a.getD 2 0) 40), IntKind.u8.wrap (shrI .u64 (a.getD 2 0) 48), IntKind.u8.wrap (shrI .u64 (a.getD 2 0) 56), IntKind.u8.wrap (shrI .u64 (a.getD 3 0) 0), IntKind.u8.wrap (shrI .u64 (a.getD 3 0) 8), IntKind.u8.wrap (shrI .u64 (a.getD 3 0) 16), IntKind.u8.wrap (shrI .u64 (a.getD 3 0) 24), IntKind.u8.wrap (shrI .u64 (a.getD 3 0) 32), IntKind.u8.wrap (shrI .u64 (a.getD 3 0) 40), IntKind.u8.wrap (shrI .u64 (a.getD 3 0) 48), IntKind.u8.wrap (shrI .u64 (a.getD 3 0) 56)]) := by kernel_rfl
abbrev bytesSC : List SV → T SV := ct l1 (fun | [.l a] => U64 a | _ => False) [.ints .u8 32] (fun | [.l a] => [.l (toB 32 (val a % L25))] | _ => [])
theorem fn46 : FnOk Tryd.prog GS 47 bytesSC := by
  refine fnOk_ct (cxS_ok (fns := [(52, belowSC)]) ⟨fn67, trivial⟩) gS Tryd.func47 (c := body Tryd.f47) (by kernel_rfl) (enters_of Tryd.func47 (by kernel_rfl) (by kernel_rfl)) (bl := no) (fuel := 100) noBlS ?_
  intro xs hfit hp
  obtain ⟨a, rfl, ha⟩ := fit_l1 hfit
  have ua : U64 a := hp
  refine ⟨by simp [fit, fit1, toB_length], ?_⟩
  rw [run46]
  simp only [belS, T.good]
  refine ⟨ua, ?_⟩
  generalize val a % L25 = N
  have e : toB 32 N = toB 8 N ++ (toB 8 (N / 18446744073709551616) ++ (toB 8 (N / 18446744073709551616 / 18446744073709551616) ++ toB 8 (N / 18446744073709551616 / 18446744073709551616 / 18446744073709551616))) := by
    rw [show (32 : Nat) = 8 + (8 + (8 + 8)) from rfl, toB_add, toB_add, toB_add]
    rfl
  simp only [outV, can1]
  rw [e, ← word_bytes N, ← word_bytes (N / _), ← word_bytes (N / _ / _), ← word_bytes (N / _ / _ / _)]
  rfl

abbrev checkSC : List SV → T SV := ct [.ints .u8 32] (fun | [.l b] => U8 b | _ => False) [.bool] (fun | [.l b] => [.b (decide (bv b < L25))] | _ => [])
theorem toL_getD (n : Int) : [(toL 8 n).getD 0 0, (toL 8 n).getD 1 0, (toL 8 n).getD 2 0, (toL 8 n).getD 3 0] = toL 4 n := rfl
theorem bv32_lt {b : List Int} (h : U8 b) (hl : b.length = 32) : 0 ≤ bv b ∧ bv b < 115792089237316195423570985008687907853269984665640564039457584007913129639936 := by
  have := bv_range h
  rw [hl, show (256 : Int) ^ 32 = 115792089237316195423570985008687907853269984665640564039457584007913129639936 by decide +kernel] at this
  exact this
theorem run40 (a : List Int) : runX (cxF [(52, belowSC), (53, minusC)]) no 100 Tryd.f24 (body Tryd.f24) (can l1 [.l a]) gmS =
  belS a fun a => .ite (a == z4) (.ret (.ints .u64 4 a)) (minus2T orderL a fun r _ => .ret (.ints .u64 4 r)) := by kernel_rfl
abbrev negSC : List SV → T SV := ct l1 (fun | [.l a] => U64 a | _ => False) [i4] (fun | [.l a] => [.l (toL 4 ((-val a) % L25))] | _ => [])
theorem neg_modL (x : Int) (h : x % L25 ≠ 0) : (-x) % L25 = L25 - x % L25 := by
  have h1 := Int.emod_add_mul_ediv x L25
  have hm := modL x
  have e : -x = (L25 - x % L25) + L25 * (-(x / L25) - 1) := by rw [Int.mul_sub, Int.mul_neg, Int.mul_one]; omega
  rw [e, Int.add_mul_emod_self_left]
  exact Int.emod_eq_of_lt (by omega) (by omega)
theorem neg_modL0 (x : Int) (h : x % L25 = 0) : (-x) % L25 = 0 := by
  have h1 := Int.emod_add_mul_ediv x L25
  have e : -x = 0 + L25 * (-(x / L25)) := by rw [Int.mul_neg]; omega
  rw [e, Int.add_mul_emod_self_left]; rfl
theorem fn40 : FnOk Tryd.prog GS 24 negSC := by
  refine fnOk_ct (cxS_ok (fns := [(52, belowSC), (53, minusC)]) ⟨fn67, fn68S, trivial⟩) gS Tryd.func24 (c := body Tryd.f24) (by kernel_rfl) (enters_of Tryd.func24 (by kernel_rfl) (by kernel_rfl)) (bl := no) (fuel := 100) noBlS ?_
  intro xs hfit hp
  obtain ⟨a, rfl, ha⟩ := fit_l1 hfit
  have ua : U64 a := hp
  refine ⟨fit_i4 _, ?_⟩
  rw [run40]
  simp only [belS, minus2T, T.good]
  refine ⟨ua, fun h => ?_, fun h => ⟨⟨uOrder, toL_u64 _ _⟩, ?_⟩⟩
  · have h0 : val a % L25 = 0 := by
      have := congrArg val (beq_iff_eq.1 h)
      rwa [val_toLL, val_z4] at this
    simp only [outV, can1]
    rw [neg_modL0 _ h0, h0]
  · have h0 : val a % L25 ≠ 0 := fun h0 => by rw [h0] at h; cases h
    simp only [outV, can1]
    rw [val_toLL, val_order, neg_modL _ h0]

/-! ### awake -/
abbrev orderB : List Int := [237, 211, 245, 92, 26, 99, 18, 88, 214, 156, 247, 162, 222, 249, 222, 20, 0, 0, 0, 0, 0, 0, 0, 0, 0, 0, 0, 0, 0, 0, 0, 16]
abbrev orderC : List SV → T SV := ct [] (fun _ => True) [.ints .u8 32] (fun _ => [.l orderB])
theorem u8_of {l : List Int} (h : (l.all fun x => decide (0 ≤ x ∧ x < 256)) = true) : U8 l := fun x hx => of_decide_eq_true (List.all_eq_true.1 h x hx)
abbrev b258x : List Int := [2, 1] ++ List.replicate 62 0
abbrev e1b : List Int := [1] ++ List.replicate 31 0
abbrev Lm1 : List Int := [6346243789798364140, 1503914060200516822, 0, 1152921504606846976]
theorem sb46 : FnOk Tryd.prog GS 47 (spG l1 (tabF [.ints .u8 32] [([.l [258, 0, 0, 0]], [.l b258])])) := fn46.tab1 _ _ (u64_4.2 (by decide)) rfl
theorem sb40 : FnOk Tryd.prog GS 24 (spG l1 (tabF [i4] [([.l [1, 0, 0, 0]], [.l Lm1])])) := fn40.tab1 _ _ (u64_4.2 (by decide)) rfl
theorem sb36 : FnOk Tryd.prog GS 26 (spG l2 (tabF [i4] [([.l Lm1, .l [3, 0, 0, 0]], [.l [2, 0, 0, 0]])])) := fn36.tab1 _ _ ⟨u64_4.2 (by decide), u64_4.2 (by decide)⟩ rfl
theorem sb38 : FnOk Tryd.prog GS 27 (spG l2 (tabF [i4] [([.l [3, 0, 0, 0], .l [5, 0, 0, 0]], [.l [15, 0, 0, 0]])])) := fn38.tab1 _ _ ⟨u64_4.2 (by decide), u64_4.2 (by decide)⟩ rfl
/-! ### Classes modulo L -/
def Ln : Nat := 7237005577332262213973186563042994240857116359379907606001950938285454250989
instance : NeZero Ln := ⟨by decide +kernel⟩
theorem Ln_cast : (Ln : Int) = L25 := by decide +kernel
def fl (x : Int) : Fin Ln := Nt.toF Ln x
theorem fl_eq {x y : Int} : fl x = fl y ↔ x % L25 = y % L25 := by
  unfold fl; rw [Nt.toF_eq, Ln_cast]
theorem fl_mod (x : Int) : fl (x % L25) = fl x := by
  unfold fl; rw [← Ln_cast]; exact Nt.toF_mod Ln x
theorem fl_add (x y : Int) : fl (x + y) = fl x + fl y := Nt.toF_add Ln x y
theorem fl_mul (x y : Int) : fl (x * y) = fl x * fl y := Nt.toF_mul Ln x y
theorem fl_neg (x : Int) : fl (-x) = -fl x := Nt.toF_neg Ln x
theorem fl_zero : fl 0 = 0 := Nt.toF_zero Ln
theorem fl_one : fl 1 = 1 := Nt.toF_one Ln
theorem toLL_beq (x y : Int) : (toL 4 (x % L25) == toL 4 (y % L25)) = decide (fl x = fl y) := by
  by_cases h : fl x = fl y
  · rw [fl_eq.1 h, decide_eq_true h]; exact beq_self_eq_true _
  · rw [decide_eq_false h]
    refine beq_eq_false_iff_ne.2 fun hc => h (fl_eq.2 ?_)
    rw [← val_toLL x, hc, val_toLL]
theorem sbeq_z4 (x : Int) : (toL 4 (x % L25) == z4) = decide (fl x = 0) := by
  rw [show z4 = toL 4 (0 % L25) by decide +kernel, toLL_beq, fl_zero]
theorem sbeq_o4 (x : Int) : (toL 4 (x % L25) == o4) = decide (fl x = 1) := by
  rw [show o4 = toL 4 (1 % L25) by decide +kernel, toLL_beq, fl_one]
theorem sden {b : Bool} (h : b = true) : ∀ ρ, (SV.bool b).den ρ = (outV [.bool] [.b true]).den ρ := fun ρ => by rw [h]; rfl

def addS (a b : List Int) (k : List Int → T SV) : T SV := .need (U64 a ∧ U64 b) (k (toL 4 ((val a + val b) % L25)))
def mulS (a b : List Int) (k : List Int → T SV) : T SV := .need (U64 a ∧ U64 b) (k (toL 4 ((val a * val b) % L25)))
def negS (a : List Int) (k : List Int → T SV) : T SV := .need (U64 a) (k (toL 4 ((-val a) % L25)))
def bytesS (a : List Int) (k : List Int → T SV) : T SV := .need (U64 a) (k (toB 32 (val a % L25)))
def checkS (b : List Int) (k : Bool → T SV) : T SV := .need (U8 b) (k (decide (bv b < L25)))

/-! ### ScalarLaws -/
def laws10T (a b c : List Int) : T SV :=
  addS a b fun ab => addS b a fun ba => okT (ab == ba) <|
  addS a b fun ab => addS ab c fun x => addS b c fun bc => addS a bc fun y => okT (x == y) <|
  negS a fun na => addS a na fun s3 =>
  mulS a b fun ab => mulS b a fun ba => okT (ab == ba) <|
  mulS a b fun ab => mulS ab c fun x => mulS b c fun bc => mulS a bc fun y => okT (x == y) <|
  mulS a o4 fun a1 => addS a z4 fun a0 => okT (s3 == z4) <| okT (a1 == a0) <|
  addS b c fun bc => mulS a bc fun x => mulS a b fun ab => mulS a c fun ac => addS ab ac fun y => .ret (.bool (x == y))
theorem laws10_good (a b c : List Int) (u1 : U64 a) (u2 : U64 b) (u3 : U64 c) : Gd (laws10T a b c) fun u => ∀ ρ, u.den ρ = (outV [.bool] [.b true]).den ρ := by
  refine ⟨?_⟩
  simp only [laws10T, addS, mulS, negS, okT, T.good, val_toLL, val_z4, val_o4, toLL_beq, sbeq_z4, fl_mod, fl_add, fl_mul, fl_neg, fl_zero, fl_one]
  generalize fl (val a) = A
  generalize fl (val b) = B
  generalize fl (val c) = C
  refine ⟨⟨u1, u2⟩, ⟨u2, u1⟩, decide_eq_true (by grind), ⟨u1, u2⟩, ⟨ut4 _, u3⟩, ⟨u2, u3⟩, ⟨u1, ut4 _⟩, decide_eq_true (by grind), u1, ⟨u1, ut4 _⟩, ⟨u1, u2⟩, ⟨u2, u1⟩, decide_eq_true (by grind), ⟨u1, u2⟩, ⟨ut4 _, u3⟩, ⟨u2, u3⟩, ⟨u1, ut4 _⟩, decide_eq_true (by grind), ⟨u1, uo4⟩, ⟨u1, uz4⟩, decide_eq_true (by grind), decide_eq_true (by grind),
    ⟨u2, u3⟩, ⟨u1, ut4 _⟩, ⟨u1, u2⟩, ⟨u1, u3⟩, ⟨ut4 _, ut4 _⟩, sden (decide_eq_true (by grind))⟩
/-! ### ScalarNegs -/
def laws12T (a b : List Int) : T SV :=
  negS o4 fun n => negS a fun na => negS na fun nn => addS a z4 fun a0 => okT (nn == a0) <|
  mulS n a fun m => negS a fun na => okT (m == na) <|
  addS a b fun ab => negS b fun nb => addS ab nb fun x => addS a z4 fun a0 => okT (x == a0) <|
  mulS n n fun m => okT (m == o4) <|
  addS a b fun ab => negS ab fun x => negS a fun na => negS b fun nb => addS na nb fun y => .ret (.bool (x == y))
theorem laws12_good (a b : List Int) (u1 : U64 a) (u2 : U64 b) : Gd (laws12T a b) fun u => ∀ ρ, u.den ρ = (outV [.bool] [.b true]).den ρ := by
  refine ⟨?_⟩
  simp only [laws12T, addS, mulS, negS, okT, T.good, val_toLL, val_z4, val_o4, toLL_beq, sbeq_o4, fl_mod, fl_add, fl_mul, fl_neg, fl_zero, fl_one]
  generalize fl (val a) = A
  generalize fl (val b) = B
  exact ⟨uo4, u1, ut4 _, ⟨u1, uz4⟩, decide_eq_true (by grind), ⟨ut4 _, u1⟩, u1, decide_eq_true (by grind), ⟨u1, u2⟩, u2, ⟨ut4 _, ut4 _⟩, ⟨u1, uz4⟩, decide_eq_true (by grind), ⟨ut4 _, ut4 _⟩, decide_eq_true (by grind), ⟨u1, u2⟩, ut4 _, u1, u2, ⟨ut4 _, ut4 _⟩, sden (decide_eq_true (by grind))⟩
/-! ### ScalarBack -/
abbrev powerB : List Int := List.replicate 32 0 ++ [1] ++ List.replicate 31 0
def laws11T (a b c : List Int) : T SV :=
  bytesS a fun x => ofS1T b fun y => ofS1T powerB fun p => ofS1T c fun fc => mulS p fc fun m => addS y m fun sum =>
  checkS x fun cx => okT cx <| ofS1T x fun fx => addS a z4 fun a0 => okT (fx == a0) <|
  bytesS y fun yb => checkS b fun cb => okT ((yb == b) == cb) <| ofS1T (b ++ c) fun o => .ret (.bool (o == sum))
theorem sbv_toB : ∀ (k : Nat) (n : Int), 0 ≤ n → n < 256 ^ k → bv (toB k n) = n
  | 0, n, h0, h1 => by simp at h1; simp [toB, bv]; omega
  | k + 1, n, h0, h1 => by
    simp only [toB, bv]
    rw [Int.pow_succ] at h1
    rw [sbv_toB k (n / 256) (by omega) (Int.ediv_lt_of_lt_mul (by decide) h1)]
    omega
theorem stoB_u8 : ∀ (k : Nat) (n : Int), U8 (toB k n)
  | 0, n, x, hx => by simp [toB] at hx
  | k + 1, n, x, hx => by
    rcases List.mem_cons.1 hx with rfl | hx
    · omega
    · exact stoB_u8 k _ x hx
theorem toB_bv : ∀ {b : List Int}, U8 b → toB b.length (bv b) = b
  | [], _ => rfl
  | x :: l, h => by
    have h1 := h x (by simp)
    have ih := toB_bv (b := l) (fun y hy => h y (by simp [hy]))
    simp only [List.length_cons, toB, bv]
    congr 1
    · omega
    · rw [show (x + 256 * bv l) / 256 = bv l by omega]; exact ih
theorem bvL (n : Int) : bv (toB 32 (n % L25)) = n % L25 := sbv_toB 32 _ (modL n).1 (Int.lt_trans (modL n).2 (by decide +kernel))
theorem bv_append : ∀ (a b : List Int), bv (a ++ b) = bv a + 256 ^ a.length * bv b
  | [], b => by simp [bv]
  | x :: l, b => by
    simp only [List.cons_append, bv, List.length_cons, bv_append l b, Int.pow_succ]
    rw [Int.mul_add, Int.mul_comm (256 ^ l.length) 256, Int.mul_assoc]; omega

theorem laws11_good (a b c : List Int) (u1 : U64 a) (ub : U8 b) (uc : U8 c) (hb : b.length = 32) : Gd (laws11T a b c) fun u => ∀ ρ, u.den ρ = (outV [.bool] [.b true]).den ρ := by
  refine ⟨?_⟩
  have hp : bv powerB = 256 ^ 32 := by decide +kernel
  have up : U8 powerB := u8_of (by decide)
  simp only [laws11T, addS, mulS, bytesS, checkS, ofS1T, okT, T.good, val_toLL, val_z4, bvL, toLL_beq, fl_mod, fl_add, fl_mul, fl_zero, bv_append, hb, hp]
  have hm := modL (bv b)
  refine ⟨u1, ub, up, uc, ⟨ut4 _, ut4 _⟩, ⟨ut4 _, ut4 _⟩, stoB_u8 _ _, decide_eq_true (modL _).2, stoB_u8 _ _, ⟨u1, uz4⟩, decide_eq_true (by grind), ut4 _, ub, ?_, U8.append.2 ⟨ub, uc⟩, sden (decide_eq_true trivial)⟩
  have hr := bv_range ub
  rw [Int.emod_emod_of_dvd _ (Int.dvd_refl L25)]
  by_cases h : bv b < L25
  · rw [decide_eq_true h, Int.emod_eq_of_lt hr.1 h]
    have := toB_bv ub
    rw [hb] at this
    rw [this, beq_self_eq_true]; rfl
  · rw [decide_eq_false h]
    have : (toB 32 (bv b % L25) == b) = false := by
      refine beq_eq_false_iff_ne.2 fun he => h ?_
      have := congrArg bv he
      rw [bvL] at this
      omega
    rw [this]; rfl
end Go.Proofs.YtkhooaaidmoogaaDoor

/- The document's answer for scalars. -/
namespace Go.Proofs.YtkhooaaidmoogaaDoor
open Go Go.Sx
set_option maxRecDepth 100000

theorem run70 : runX (cxF []) no 100 Tryd.f69 (body Tryd.f69) [] gmT = .ret (.ints .u64 4 orderL) := by kernel_rfl
abbrev rorderC : List SV → T SV := ct [] (fun _ => True) [i4] (fun _ => [.l orderL])
theorem fn70 : FnOk Tryd.prog GT 69 rorderC := by
  refine fnOk_ct (cxT_ok (fns := []) trivial) gT Tryd.func69 (c := body Tryd.f69) (by kernel_rfl) (enters_of Tryd.func69 (by kernel_rfl) (by kernel_rfl)) (bl := no) (fuel := 100) noBlT ?_
  intro xs hfit hp
  obtain rfl := fit_0 hfit
  refine ⟨by simp [fit, fit1, orderL], ?_⟩
  rw [show can [] [] = [] from rfl, run70]
  rfl

theorem run72 (a0 a1 a2 a3 b0 b1 b2 b3 : Int) : runX (cxF []) no 100 Tryd.f70 (body Tryd.f70) (can l2 [.l [a0, a1, a2, a3], .l [b0, b1, b2, b3]]) gmT =
  .ite (a3 != b3) (.ret (.bool (decide (a3 < b3)))) (.ite (a2 != b2) (.ret (.bool (decide (a2 < b2)))) (.ite (a1 != b1) (.ret (.bool (decide (a1 < b1)))) (.ite (a0 != b0) (.ret (.bool (decide (a0 < b0)))) (.ret .ff)))) := by kernel_rfl
theorem fn72 : FnOk Tryd.prog GT 70 lessC := by
  refine fnOk_gd (cxT_ok (fns := []) trivial) gT Tryd.func70 (c := body Tryd.f70) (by kernel_rfl) (enters_of Tryd.func70 (by kernel_rfl) (by kernel_rfl)) (fuel := 100) ?_
  intro xs hfit hp
  obtain ⟨a, b, rfl, ha, hb⟩ := fit_l2 hfit
  obtain ⟨a0, a1, a2, a3, rfl⟩ := len4 ha
  obtain ⟨b0, b1, b2, b3, rfl⟩ := len4 hb
  obtain ⟨u1, u2⟩ := hp
  have hq := u64_4.1 u1
  have hr := u64_4.1 u2
  refine ⟨no, noBlT, by simp [fit, fit1], Gd.of_eq (run72 a0 a1 a2 a3 b0 b1 b2 b3) ⟨?_⟩⟩
  have den (p q : Prop) [Decidable p] [Decidable q] (h : p ↔ q) : ∀ ρ, (SV.bool (decide p)).den ρ = (outV [.bool] [.b (decide q)]).den ρ := fun ρ => by rw [decide_eq_decide.2 h]; rfl
  simp only [T.good, bne_iff_ne, ne_eq, bne_eq_false_iff_eq]
  refine ⟨fun h => den _ _ (by simp only [val]; omega), fun e => ⟨fun h => den _ _ (by simp only [val]; omega), fun e2 => ⟨fun h => den _ _ (by simp only [val]; omega), fun e3 => ⟨fun h => den _ _ (by simp only [val]; omega), fun e4 => ?_⟩⟩⟩⟩
  intro ρ
  subst e; subst e2; subst e3; subst e4
  simp [SV.den, outV, can1]

theorem run69 (a0 a1 a2 a3 b0 b1 b2 b3 : Int) : runX (cxF []) no 100 Tryd.f71 (body Tryd.f71) (can l2 [.l [a0, a1, a2, a3], .l [b0, b1, b2, b3]]) gmT =
  bstepR a0 b0 false fun r0 c => bstepR a1 b1 c fun r1 c => bstepR a2 b2 c fun r2 c => bstepR a3 b3 c fun r3 _ => .ret (.ints .u64 4 [r0, r1, r2, r3]) := by kernel_rfl

theorem fn69 : FnOk Tryd.prog GT 71 takeC := by
  refine fnOk_gd (cxT_ok (fns := []) trivial) gT Tryd.func71 (c := body Tryd.f71) (by kernel_rfl) (enters_of Tryd.func71 (by kernel_rfl) (by kernel_rfl)) (fuel := 100) ?_
  intro xs hfit hp
  obtain ⟨a, b, rfl, ha, hb⟩ := fit_l2 hfit
  obtain ⟨a0, a1, a2, a3, rfl⟩ := len4 ha
  obtain ⟨b0, b1, b2, b3, rfl⟩ := len4 hb
  obtain ⟨u1, u2⟩ := hp
  have hq := u64_4.1 u1
  obtain ⟨p0, p1, p2, p3⟩ := hq
  have hr := u64_4.1 u2
  obtain ⟨q0, q1, q2, q3⟩ := hr
  have e := subL_eq 4 [a0, a1, a2, a3] [b0, b1, b2, b3] 0 rfl rfl u1 u2 (by omega) (by omega)
  rw [Int.sub_zero, Int.add_zero] at e
  simp only [subL] at e
  refine ⟨no, noBlT, fit_i4 _, Gd.of_eq (run69 a0 a1 a2 a3 b0 b1 b2 b3) ⟨?_⟩⟩
  refine bstepR_good p0 q0 (bstepR_good p1 q1 (bstepR_good p2 q2 (bstepR_good p3 q3 ?_)))
  intro ρ
  simp only [outV, can1, ← (Prod.mk.inj e).1, c01_dec]
  rfl


/-! ### Least -/
def leastN : Nat → List Int → T SV
  | 0, a => lessT a orderL fun b => isT (!b) false (.ret (.ints .u64 4 a))
  | q + 1, a => lessT a orderL fun b => isT (!b) true (takeT a orderL fun r => leastN q r)
noncomputable abbrev fns65 : List (Nat × (List SV → T SV)) := [(69, rorderC), (70, lessC), (71, takeC)]
theorem run65_0 (a : List Int) : prune (runX (cxF fns65) no 100 Tryd.f49 (body Tryd.f49) (can l1 [.l a]) gmT) [false] = .need True (leastN 0 a) := by kernel_rfl
theorem run65_1 (a : List Int) : prune (runX (cxF fns65) no 100 Tryd.f49 (body Tryd.f49) (can l1 [.l a]) gmT) [true, false] = .need True (leastN 1 a) := by kernel_rfl
theorem run65_2 (a : List Int) : prune (runX (cxF fns65) no 100 Tryd.f49 (body Tryd.f49) (can l1 [.l a]) gmT) [true, true, false] = .need True (leastN 2 a) := by kernel_rfl
theorem run65_3 (a : List Int) : prune (runX (cxF fns65) no 100 Tryd.f49 (body Tryd.f49) (can l1 [.l a]) gmT) [true, true, true, false] = .need True (leastN 3 a) := by kernel_rfl
theorem run65_4 (a : List Int) : prune (runX (cxF fns65) no 100 Tryd.f49 (body Tryd.f49) (can l1 [.l a]) gmT) [true, true, true, true, false] = .need True (leastN 4 a) := by kernel_rfl
theorem run65_5 (a : List Int) : prune (runX (cxF fns65) no 100 Tryd.f49 (body Tryd.f49) (can l1 [.l a]) gmT) [true, true, true, true, true, false] = .need True (leastN 5 a) := by kernel_rfl
theorem run65_6 (a : List Int) : prune (runX (cxF fns65) no 100 Tryd.f49 (body Tryd.f49) (can l1 [.l a]) gmT) [true, true, true, true, true, true, false] = .need True (leastN 6 a) := by kernel_rfl
theorem run65_7 (a : List Int) : prune (runX (cxF fns65) no 100 Tryd.f49 (body Tryd.f49) (can l1 [.l a]) gmT) [true, true, true, true, true, true, true, false] = .need True (leastN 7 a) := by kernel_rfl
theorem run65_8 (a : List Int) : prune (runX (cxF fns65) no 100 Tryd.f49 (body Tryd.f49) (can l1 [.l a]) gmT) [true, true, true, true, true, true, true, true, false] = .need True (leastN 8 a) := by kernel_rfl
theorem run65_9 (a : List Int) : prune (runX (cxF fns65) no 100 Tryd.f49 (body Tryd.f49) (can l1 [.l a]) gmT) [true, true, true, true, true, true, true, true, true, false] = .need True (leastN 9 a) := by kernel_rfl
theorem run65_10 (a : List Int) : prune (runX (cxF fns65) no 100 Tryd.f49 (body Tryd.f49) (can l1 [.l a]) gmT) [true, true, true, true, true, true, true, true, true, true, false] = .need True (leastN 10 a) := by kernel_rfl
theorem run65_11 (a : List Int) : prune (runX (cxF fns65) no 100 Tryd.f49 (body Tryd.f49) (can l1 [.l a]) gmT) [true, true, true, true, true, true, true, true, true, true, true, false] = .need True (leastN 11 a) := by kernel_rfl
theorem run65_12 (a : List Int) : prune (runX (cxF fns65) no 100 Tryd.f49 (body Tryd.f49) (can l1 [.l a]) gmT) [true, true, true, true, true, true, true, true, true, true, true, true, false] = .need True (leastN 12 a) := by kernel_rfl
theorem run65_13 (a : List Int) : prune (runX (cxF fns65) no 100 Tryd.f49 (body Tryd.f49) (can l1 [.l a]) gmT) [true, true, true, true, true, true, true, true, true, true, true, true, true, false] = .need True (leastN 13 a) := by kernel_rfl
theorem run65_14 (a : List Int) : prune (runX (cxF fns65) no 100 Tryd.f49 (body Tryd.f49) (can l1 [.l a]) gmT) [true, true, true, true, true, true, true, true, true, true, true, true, true, true, false] = .need True (leastN 14 a) := by kernel_rfl
theorem run65_15 (a : List Int) : prune (runX (cxF fns65) no 100 Tryd.f49 (body Tryd.f49) (can l1 [.l a]) gmT) [true, true, true, true, true, true, true, true, true, true, true, true, true, true, true, false] = .need True (leastN 15 a) := by kernel_rfl
theorem less_L (a : Int) : (a - L25) % L25 = a % L25 := by
  have := Int.add_mul_emod_self_left (a - L25) L25 1
  rw [Int.mul_one, Int.sub_add_cancel] at this
  exact this.symm
abbrev Q65 (a : List Int) (u : SV) : Prop := ∀ ρ, u.den ρ = (outV [i4] [.l (toL 4 (val a % L25))]).den ρ
theorem leastN_end (a : List Int) (ua : U64 a) (hl : a.length = 4) (hlt : val a < L25) : (leastN 0 a).good (Q65 a) := by
  have hr := val_range ua
  refine ⟨⟨ua, uOrder⟩, by rw [val_order, decide_eq_true hlt]; rfl, fun ρ => ?_⟩
  have ht := toL_val ua
  rw [hl] at ht
  rw [Int.emod_eq_of_lt hr.1 hlt, ht]
  rfl
theorem leastN_more (q : Nat) (a : List Int) (ua : U64 a) (hge : L25 ≤ val a) (hlt : val a < 115792089237316195423570985008687907853269984665640564039457584007913129639936)
    (h : (leastN q (toL 4 (val a - L25))).good (Q65 (toL 4 (val a - L25)))) : (leastN (q + 1) a).good (Q65 a) := by
  have hL := L_pos
  have hv : val (toL 4 (val a - L25)) = val a - L25 := by
    rw [val_toL4]
    exact Int.emod_eq_of_lt (by omega) (Int.lt_of_le_of_lt (Int.sub_le_self _ (by decide)) hlt)
  refine ⟨⟨ua, uOrder⟩, by rw [val_order, decide_eq_false (by omega)]; rfl, ⟨ua, uOrder⟩, ?_⟩
  rw [val_order]
  refine T.good_mono h fun u hu ρ => ?_
  rw [hu ρ, hv, less_L]
theorem leastN_good (q : Nat) : ∀ a : List Int, U64 a → a.length = 4 → val a < 115792089237316195423570985008687907853269984665640564039457584007913129639936 → (q : Int) * L25 ≤ val a → val a < ((q : Int) + 1) * L25 → (leastN q a).good (Q65 a) := by
  induction q with
  | zero =>
    intro a ua hl _ _ h1
    exact leastN_end a ua hl (by rw [Int.natCast_zero, Int.zero_add, Int.one_mul] at h1; exact h1)
  | succ q ih =>
    intro a ua hl hb h0 h1
    have hL := L_pos
    have hq : 0 ≤ (q : Int) * L25 := Int.mul_nonneg (Int.natCast_nonneg q) (Int.le_of_lt hL)
    rw [Int.natCast_add, Int.natCast_one, Int.add_mul, Int.one_mul] at h0
    rw [Int.natCast_add, Int.natCast_one, Int.add_mul, Int.add_mul, Int.one_mul] at h1
    have hv : val (toL 4 (val a - L25)) = val a - L25 := by
      rw [val_toL4]
      exact Int.emod_eq_of_lt (by omega) (Int.lt_of_le_of_lt (Int.sub_le_self _ (by decide)) hb)
    exact leastN_more q a ua (by omega) hb (ih _ (toL_u64 _ _) (toL_length _ _) (by rw [hv]; exact Int.lt_of_le_of_lt (Int.sub_le_self _ (by decide)) hb) (by rw [hv]; omega) (by rw [hv, Int.add_mul, Int.one_mul]; omega))
theorem fns65_ok : FnsOk Tryd.prog GT fns65 := ⟨fn70, fn72, fn69, trivial⟩
theorem fn65 : FnOk Tryd.prog GT 49 belowSC := by
  refine fnOk_gd (cxT_ok fns65_ok) gT Tryd.func49 (c := body Tryd.f49) (by kernel_rfl) (enters_of Tryd.func49 (by kernel_rfl) (by kernel_rfl)) (fuel := 100) ?_
  intro xs hfit hp
  obtain ⟨a, rfl, ha⟩ := fit_l1 hfit
  have ua : U64 a := hp
  have hr := val4_range ua ha
  have hL := L_pos
  refine ⟨no, noBlT, fit_i4 _, ?_⟩
  have h0 : 0 ≤ val a / L25 := Int.ediv_nonneg hr.1 (Int.le_of_lt hL)
  have h1 : val a / L25 < 16 := Int.ediv_lt_of_lt_mul hL (Int.lt_of_lt_of_le hr.2 (by decide))
  have e := Int.emod_add_mul_ediv (val a) L25
  have hm := modL (val a)
  have key : ∀ q : Nat, val a / L25 = q → Gd (.need True (leastN q a)) (Q65 a) := fun q hq => ⟨⟨trivial, leastN_good q a ua ha hr.2 (by rw [hq, Int.mul_comm] at e; omega) (by rw [hq, Int.mul_comm] at e; rw [Int.add_mul, Int.one_mul]; omega)⟩⟩
  obtain ⟨q, hq⟩ := Int.eq_ofNat_of_zero_le h0
  have hg := key q hq
  have hlt : q < 16 := by omega
  clear key e hq h0 h1 hm
  revert hg
  match q, hlt with
  | 0, _ => exact fun hg => Gd.of_run (run65_0 a) hg
  | 1, _ => exact fun hg => Gd.of_run (run65_1 a) hg
  | 2, _ => exact fun hg => Gd.of_run (run65_2 a) hg
  | 3, _ => exact fun hg => Gd.of_run (run65_3 a) hg
  | 4, _ => exact fun hg => Gd.of_run (run65_4 a) hg
  | 5, _ => exact fun hg => Gd.of_run (run65_5 a) hg
  | 6, _ => exact fun hg => Gd.of_run (run65_6 a) hg
  | 7, _ => exact fun hg => Gd.of_run (run65_7 a) hg
  | 8, _ => exact fun hg => Gd.of_run (run65_8 a) hg
  | 9, _ => exact fun hg => Gd.of_run (run65_9 a) hg
  | 10, _ => exact fun hg => Gd.of_run (run65_10 a) hg
  | 11, _ => exact fun hg => Gd.of_run (run65_11 a) hg
  | 12, _ => exact fun hg => Gd.of_run (run65_12 a) hg
  | 13, _ => exact fun hg => Gd.of_run (run65_13 a) hg
  | 14, _ => exact fun hg => Gd.of_run (run65_14 a) hg
  | 15, _ => exact fun hg => Gd.of_run (run65_15 a) hg
  | _ + 16, h => exact absurd h (by omega)

/-! ### Add, Neg, Bytes, Check -/
end Go.Proofs.YtkhooaaidmoogaaDoor

/- The document's answer for scalars: numbers of bytes, products; the law ScalarTells. -/
namespace Go.Proofs.YtkhooaaidmoogaaDoor
open Go Go.Sx
set_option maxRecDepth 100000

def ksO : Fg := ⟨[.keep, .keep, .keep, .keep, .soft] ++ List.replicate 22 .junk, 3, 6⟩
def jsO : Fg := ⟨[.keep, .keep, .keep, .keep, .junk] ++ List.replicate 22 .junk, 3, 6⟩
def memO (b out : List Int) : Mem := [(0, .st true [.ints .u8 64 b]), (1, .st true [.ints .u64 4 [0, 0, 0, 0]]), (3, .st true [.ints .u64 4 out])]
def invO (b : List Int) (i : Int) (out : List Int) : St := ⟨[.ints .u8 64 b, ptr0 0, ptr0 1, ptr0 3, .int .i64 i] ++ junks 5 22, memO b out, 6⟩
def outO (b out : List Int) : St := ⟨[.ints .u8 64 b, ptr0 0, ptr0 1, ptr0 3] ++ junks 4 23, memO b out, 6⟩
noncomputable def blO (b out : List Int) : Blocks := fun i => match Nat.beq i 0 with
  | true => some (loopF ksO (invO b 511 [0, 0, 0, 0]) (outO b out))
  | false => none
def ksM : Fg := ⟨[.keep, .keep, .keep, .keep, .keep, .keep, .soft] ++ List.replicate 24 .junk, 4, 10⟩
def jsM : Fg := ⟨[.keep, .keep, .keep, .keep, .keep, .keep, .junk] ++ List.replicate 24 .junk, 4, 10⟩
def memM (a b out : List Int) : Mem := [(0, .st true [.ints .u64 4 a]), (1, .st true [.ints .u64 4 b]), (2, .st true [.ints .u64 4 [0, 0, 0, 0]]), (7, .st true [.ints .u64 4 out])]
def invM (a b b' : List Int) (i : Int) (out : List Int) : St := ⟨[.ints .u64 4 a, .ints .u64 4 b, ptr0 0, ptr0 1, ptr0 2, ptr0 7, .int .i64 i] ++ junks 7 24, memM a b' out, 10⟩
def outM (a b b' out : List Int) : St := ⟨[.ints .u64 4 a, .ints .u64 4 b, ptr0 0, ptr0 1, ptr0 2, ptr0 7] ++ junks 6 25, memM a b' out, 10⟩
noncomputable def blM (a b n out : List Int) : Blocks := fun i => match Nat.beq i 0 with
  | true => some (loopF ksM (invM a b n 255 [0, 0, 0, 0]) (outM a b n out))
  | false => none
theorem bv_digit : ∀ (l : List Int) (q r : Nat), U8 l → r < 8 → bv l / 2 ^ (8 * q + r) % 2 = (l.getD q 0) / 2 ^ r % 2
  | [], q, r, _, _ => by simp [bv]
  | x :: l, 0, r, h, hr => by
    simp only [bv, Nat.mul_zero, Nat.zero_add, List.getD_cons_zero]
    have e : (256 : Int) * bv l = (2 ^ r : Int) * (2 * (2 ^ (7 - r) * bv l)) := by
      have : (2 : Int) ^ r * 2 ^ (7 - r) = 2 ^ 7 := by rw [← Int.pow_add]; congr 1; omega
      rw [← Int.mul_assoc, ← Int.mul_assoc, Int.mul_assoc (2 ^ r) 2, Int.mul_comm 2, ← Int.mul_assoc, this]
      rfl
    rw [e, Int.add_mul_ediv_left _ _ (Int.ne_of_gt (Int.pow_pos (by decide))), Int.add_mul_emod_self_left]
  | x :: l, q + 1, r, h, hr => by
    have hx := h x (by simp)
    have hl : U8 l := fun y hy => h y (by simp [hy])
    rw [List.getD_cons_succ, ← bv_digit l q r hl hr]
    have e : (2 : Int) ^ (8 * (q + 1) + r) = 256 * 2 ^ (8 * q + r) := by
      rw [show 8 * (q + 1) + r = 8 + (8 * q + r) by omega, Int.pow_add]; rfl
    rw [e, ← Int.ediv_ediv_of_nonneg (by decide)]
    congr 2
    simp only [bv]
    omega
theorem U8.getD' {l : List Int} (h : U8 l) (j : Nat) : 0 ≤ l.getD j 0 := by
  by_cases hj : j < l.length
  · rw [List.getD_eq_getElem?_getD, List.getElem?_eq_getElem hj]; exact (h _ (List.getElem_mem hj)).1
  · rw [List.getD_eq_getElem?_getD, List.getElem?_eq_none (by omega)]; exact Int.le_refl 0
theorem shrI_u8 (x : Int) (k : Nat) (hk : k ≤ 8) : shrI .u8 x (k : Int) = x / 2 ^ k := by
  simp only [shrI, IntKind.bits, Int.toNat_natCast, Nat.min_eq_left hk]
  exact Int.fdiv_eq_ediv_of_nonneg _ (Int.le_of_lt (Int.pow_pos (by decide)))
theorem half_stepN (M : Nat) (N : Int) (i : Nat) (_ : 0 ≤ N) (hi : i < M) : N / 2 ^ (M - (i + 1)) = N / 2 ^ (M - i) + N / 2 ^ (M - i) + N / 2 ^ (M - 1 - i) % 2 := by
  have e : (2 : Int) ^ (M - i) = 2 ^ (M - 1 - i) * 2 := by rw [show M - i = (M - 1 - i) + 1 by omega, Int.pow_succ]
  rw [show M - (i + 1) = M - 1 - i by omega, e, ← Int.ediv_ediv_of_nonneg (Int.le_of_lt (Int.pow_pos (by decide)))]
  omega
theorem dbl0 (X A : Int) : (X * A % L25 + X * A % L25) % L25 = (X + X + 0) * A % L25 := by
  apply fl_eq.1
  simp only [fl_add, fl_mul, fl_mod, fl_zero]
  grind
theorem dbl1 (X A : Int) : ((X + X + 0) * A % L25 + A) % L25 = (X + X + 1) * A % L25 := by
  apply fl_eq.1
  simp only [fl_add, fl_mul, fl_mod, fl_one, fl_zero]
  grind
theorem val_1 : val [1, 0, 0, 0] = 1 := by decide

/-! ### Of -/
noncomputable def InvO (b : List Int) (i : Nat) : St := invO b (511 - i) (toL 4 (bv b / 2 ^ (512 - i) * 1 % L25))
/-! ### From -/
/-! ### Mul -/
noncomputable def InvM (a b n : List Int) (i : Nat) : St := invM a b n (255 - i) (toL 4 (val n / 2 ^ (256 - i) * val a % L25))
theorem mulEnd (a b : Int) : (b % L25) * a % L25 = a * b % L25 := by
  apply fl_eq.1
  simp only [fl_mul, fl_mod]
  grind
abbrev toGS {g : FuncId} {spec : List SV → T SV} (h : FnOk Tryd.prog GT g spec) : FnOk Tryd.prog GS g spec := h.mono fun _ _ => trivial
def tells9T (a b c d : List Int) : T SV :=
  addS a b fun x => addS a b fun y => okT (x == y) <|
  mulS a b fun x => mulS a b fun y => okT (x == y) <|
  negS a fun x => negS a fun y => okT (x == y) <|
  ofS1T c fun x => ofS1T c fun y => okT (x == y) <|
  ofS1T d fun x => ofS1T d fun y => okT (x == y) <|
  bytesS a fun x => bytesS a fun y => okT (x == y) <|
  checkS d fun x => checkS d fun y => .ret (.bool (x == y))
theorem tells9_good (a b c d : List Int) (u1 : U64 a) (u2 : U64 b) (u3 : U8 c) (u4 : U8 d) : Gd (tells9T a b c d) fun u => ∀ ρ, u.den ρ = (outV [.bool] [.b true]).den ρ := by
  have e (l : List Int) : (l == l) = true := beq_self_eq_true l
  have e' (x : Bool) : (x == x) = true := beq_self_eq_true x
  refine ⟨?_⟩
  simp only [tells9T, addS, mulS, negS, ofS1T, bytesS, checkS, okT, T.good]
  exact ⟨⟨u1, u2⟩, ⟨u1, u2⟩, e _, ⟨u1, u2⟩, ⟨u1, u2⟩, e _, u1, u1, e _, u3, u3, e _, u4, u4, e _, u1, u1, e _, u4, u4, sden (e' _)⟩
end Go.Proofs.YtkhooaaidmoogaaDoor

/- The field's roots, as the curve takes them. -/
namespace Go.Proofs.YtkhooaaidmoogaaDoor
open Go Go.Sx
set_option maxRecDepth 100000

theorem Pc_cast : (Nt.Pc : Int) = P25 := by decide +kernel
abbrev cp (x : Int) : Fin Nt.Pc := Nt.toF Nt.Pc x
theorem cp_eq {x y : Int} : cp x = cp y ↔ x % P25 = y % P25 := by
  rw [← Pc_cast]; exact Nt.toF_eq Nt.Pc
theorem cp_fp {x y : Int} : cp x = cp y ↔ fp x = fp y := by rw [cp_eq, fp_eq]
theorem cp_mod (x : Int) : cp (x % P25) = cp x := by
  rw [← Pc_cast]; exact Nt.toF_mod Nt.Pc x
theorem cp_add (x y : Int) : cp (x + y) = cp x + cp y := Nt.toF_add Nt.Pc x y
theorem cp_mul (x y : Int) : cp (x * y) = cp x * cp y := Nt.toF_mul Nt.Pc x y
theorem cp_neg (x : Int) : cp (-x) = -cp x := Nt.toF_neg Nt.Pc x
theorem cp_sub (x y : Int) : cp (x - y) = cp x - cp y := Nt.toF_sub Nt.Pc x y
theorem cp_pow (x : Int) (k : Nat) : cp (x ^ k) = cp x ^ k := Nt.toF_pow Nt.Pc x k
theorem cp_zero : cp 0 = 0 := Nt.toF_zero Nt.Pc
theorem cp_one : cp 1 = 1 := Nt.toF_one Nt.Pc
theorem Pc_two : Nt.Pc - 2 = 57896044618658097711785492504343953926634992332820282019728792003956564819947 := by decide +kernel
theorem cp_inv (x : Int) : cp (x ^ 57896044618658097711785492504343953926634992332820282019728792003956564819947 % P25) = Nt.inv (cp x) := by
  rw [cp_mod, cp_pow]; unfold Nt.inv; rw [Pc_two]
theorem digs_cp (n : Int) : toL 4 (n % P25) = Nt.digs (cp n) := by
  rw [← Pc_cast]; exact Nt.digs_toF n
theorem cp_val (l : List Int) : cp (val l) = Nt.cls l := rfl
theorem cp_digs (x : Fin Nt.Pc) : cp (val (Nt.digs x)) = x := Nt.cls_digs x

theorem root_is (U V : Int) : Nt.IsRoot (cp U) (cp V) (cp (rootP U V).1) (rootP U V).2 := by
  obtain ⟨⟨h0, h1, h2⟩, h, -⟩ := rootP_spec U V
  generalize (rootP U V).1 = r at *
  generalize (rootP U V).2 = ok at *
  have key : ∀ t : Int, cp V * (cp t * cp t) = cp U ↔ fp V * (fp t * fp t) = fp U := fun t => by
    rw [← cp_mul, ← cp_mul, ← fp_mul, ← fp_mul, cp_fp]
  refine ⟨?_, ?_⟩
  · have hv := Nt.toF_val Nt.Pc r
    rw [Pc_cast, Int.emod_eq_of_lt h0 h1] at hv
    show (Nt.toF Nt.Pc r).val % 2 = 0
    omega
  · rcases h with ⟨h3, h4⟩ | ⟨h3, -, h4⟩
    · exact .inl ⟨h3, (key r).2 h4⟩
    · refine .inr ⟨h3, fun t e => h4 (fp t.val) ?_⟩
      refine (key t.val).1 ?_
      rw [show cp (t.val : Int) = t from Nt.toF_fin t]
      exact e
end Go.Proofs.YtkhooaaidmoogaaDoor

/- The document's answer for the field: products, digit by digit. -/
namespace Go.Proofs.YtkhooaaidmoogaaDoor
open Go Go.Sx
set_option maxRecDepth 100000

/-- Digits of sixteen bits. -/
def toD : Nat → Int → List Int
  | 0, _ => []
  | k + 1, n => n % 65536 :: toD k (n / 65536)
abbrev digC : List SV → T SV := ct l1 (fun | [.l a] => U64 a | _ => False) [.ints .u64 16] (fun | [.l a] => [.l (toD 16 (val a))] | _ => [])
def dig1T (a : List Int) (k : List Int → T SV) : T SV := .need (U64 a) (k (toD 16 (val a)))

def mstep (xi yk : Int) (j : Nat) (l : List Int) : List Int := putL l j 32 1 [IntKind.u64.wrap (l.getD j 0 + IntKind.u64.wrap (xi * yk))]
def mrow (xi : Int) (y : List Int) (i : Nat) : Nat → List Int → List Int
  | 0, l => l
  | k + 1, l => mstep xi (y.getD k 0) (i + k) (mrow xi y i k l)
def mall (x y : List Int) : Nat → List Int
  | 0 => List.replicate 32 0
  | i + 1 => mrow (x.getD i 0) y i 16 (mall x y i)
def mlow (all : List Int) : Nat → List Int
  | 0 => List.replicate 16 0
  | i + 1 => putL (mlow all i) i 16 1 [IntKind.u64.wrap (all.getD i 0 + IntKind.u64.wrap (38 * all.getD (i + 16) 0))]
def pstep (k : Nat) (r : List Int × Int) : List Int × Int :=
  (putL r.1 k 16 1 [(IntKind.u64.wrap (r.1.getD k 0 + r.2)).tmod 65536], IntKind.u64.wrap ((IntKind.u64.wrap (r.1.getD k 0 + r.2)).tdiv 65536))
def pass (l : List Int) : Nat → List Int × Int
  | 0 => (l, 0)
  | k + 1 => pstep k (pass l k)
def pass38 (l : List Int) : List Int := putL (pass l 16).1 0 16 1 [IntKind.u64.wrap ((pass l 16).1.getD 0 0 + IntKind.u64.wrap (38 * (pass l 16).2))]
def ostep (l : List Int) (k : Nat) (r : List Int × Int) : List Int × Int :=
  (putL r.1 (k / 4) 4 1 [bitsI .or .u64 (r.1.getD (k / 4) 0) (shlI .u64 ((IntKind.u64.wrap (l.getD k 0 + r.2)).tmod 65536) (16 * (k % 4) : Nat))], IntKind.u64.wrap ((IntKind.u64.wrap (l.getD k 0 + r.2)).tdiv 65536))
def opass (l : List Int) : Nat → List Int × Int
  | 0 => ([0, 0, 0, 0], 0)
  | k + 1 => ostep l k (opass l k)
def rmulV (x y : List Int) : List Int := (opass (pass38 (pass38 (pass38 (mlow (mall x y 16) 16)))) 16).1

/-! ### The inner loop, cut out: a run for each digit, so that none is great -/
theorem cut_rule {P : Program} {Γ : Gam} {cx : Cx} {draw : Array Oper → St → T St} {bl : Blocks} (hc : CxOk P Γ.G cx) (hg : GlobOk Γ) (h0 : Γ.G Γ.w0) (hd : DrawOk P Γ draw) {c : Code} (hbl : BlocksIn P Γ bl c) (fuel : Nat) (ks js : Fg) (hn : Γ.n0 ≤ ks.nx) (hno : Γ.n0 ≤ js.nx)
    {H H' : St} (hrun : endOf js js (exec cx draw bl fuel c H) = .ret (.normal, H')) {S : St} (hk : keepOk ks S = true) (hs : Sx.forget ks S = H) : Go.Sx.Comes P Γ c S .normal H' := by
  intro ρ a w hrel
  obtain ⟨ρ2, hr2⟩ := hrel.forget hk hn
  rw [hs] at hr2
  have hround : (endOf js js (exec cx draw bl fuel c H)).good fun r => r = (.normal, H') := by rw [hrun]; rfl
  unfold endOf at hround
  rw [T.good_bind] at hround
  obtain ⟨⟨e, S1⟩, hr, hq⟩ := T.reach_of_good hround
  refine wp_mono ((exec_sound hc hg h0 hd fuel).1 c _ S1 e hbl hr ρ2 a w hr2) fun x a' w' ⟨hx, ρ', hr'⟩ => ?_
  subst hx
  cases e with
  | normal =>
    obtain ⟨hk2, he⟩ := ifT_good hq
    have he : (Ex.normal, Sx.forget js S1) = (Ex.normal, H') := he
    cases he
    exact ⟨rfl, hr'.forget hk2 hno⟩
  | exit j =>
    obtain ⟨-, he⟩ := ifT_good hq
    have he : (Ex.exit j, Sx.forget js S1) = (Ex.normal, H') := he
    cases he
  | ret => exact hq.elim

noncomputable def bodyK : Code := (Code.blk (body Tryd.f35) 2).getD .skip
noncomputable abbrev cxK : Cx := cxF [(62, digC), (63, belowC)]
def ksK : Fg := ⟨List.replicate 10 .keep ++ List.replicate 110 .junk, 6, 18⟩
def jsK : Fg := ⟨List.replicate 9 .keep ++ List.replicate 111 .junk, 6, 18⟩
def memK (a b x y l : List Int) : Mem := [(0, .st true [.ints .u64 4 a]), (1, .st true [.ints .u64 4 b]), (2, .st true [.ints .u64 4 [0, 0, 0, 0]]), (5, .st true [.ints .u64 16 x]), (9, .st true [.ints .u64 16 y]), (12, .st true [.ints .u64 32 l])]
def hdK (a b x y : List Int) (i : Int) (l : List Int) : St := ⟨[.ints .u64 4 a, .ints .u64 4 b, ptr0 0, ptr0 1, ptr0 2, ptr0 5, ptr0 9, ptr0 12, .lit .i64 i, .lit .i64 0] ++ junks 10 110, memK a b x y l, 18⟩
def outK (a b x y : List Int) (i : Int) (l : List Int) : St := ⟨[.ints .u64 4 a, .ints .u64 4 b, ptr0 0, ptr0 1, ptr0 2, ptr0 5, ptr0 9, ptr0 12, .lit .i64 i] ++ junks 9 111, memK a b x y l, 18⟩
noncomputable def lhsK (a b x y l : List Int) (i : Nat) : T (Ex × St) := endOf jsK jsK (exec cxK (drawS cxK) no 100 (.block 2 bodyK) (hdK a b x y i l))
def rhsK (a b x y l : List Int) (i : Nat) : T (Ex × St) := .ret (.normal, outK a b x y i (mrow (x.getD i 0) y i 16 l))
theorem runK0 (a b x y l : List Int) : lhsK a b x y l 0 = rhsK a b x y l 0 := by kernel_rfl
theorem runK1 (a b x y l : List Int) : lhsK a b x y l 1 = rhsK a b x y l 1 := by kernel_rfl
theorem runK2 (a b x y l : List Int) : lhsK a b x y l 2 = rhsK a b x y l 2 := by kernel_rfl
theorem runK3 (a b x y l : List Int) : lhsK a b x y l 3 = rhsK a b x y l 3 := by kernel_rfl
theorem runK4 (a b x y l : List Int) : lhsK a b x y l 4 = rhsK a b x y l 4 := by kernel_rfl
theorem runK5 (a b x y l : List Int) : lhsK a b x y l 5 = rhsK a b x y l 5 := by kernel_rfl
theorem runK6 (a b x y l : List Int) : lhsK a b x y l 6 = rhsK a b x y l 6 := by kernel_rfl
theorem runK7 (a b x y l : List Int) : lhsK a b x y l 7 = rhsK a b x y l 7 := by kernel_rfl
theorem runK8 (a b x y l : List Int) : lhsK a b x y l 8 = rhsK a b x y l 8 := by kernel_rfl
theorem runK9 (a b x y l : List Int) : lhsK a b x y l 9 = rhsK a b x y l 9 := by kernel_rfl
theorem runK10 (a b x y l : List Int) : lhsK a b x y l 10 = rhsK a b x y l 10 := by kernel_rfl
theorem runK11 (a b x y l : List Int) : lhsK a b x y l 11 = rhsK a b x y l 11 := by kernel_rfl
theorem runK12 (a b x y l : List Int) : lhsK a b x y l 12 = rhsK a b x y l 12 := by kernel_rfl
theorem runK13 (a b x y l : List Int) : lhsK a b x y l 13 = rhsK a b x y l 13 := by kernel_rfl
theorem runK14 (a b x y l : List Int) : lhsK a b x y l 14 = rhsK a b x y l 14 := by kernel_rfl
theorem runK15 (a b x y l : List Int) : lhsK a b x y l 15 = rhsK a b x y l 15 := by kernel_rfl
theorem runK (a b x y l : List Int) : ∀ i : Nat, i < 16 → lhsK a b x y l i = rhsK a b x y l i
  | 0, _ => runK0 a b x y l
  | 1, _ => runK1 a b x y l
  | 2, _ => runK2 a b x y l
  | 3, _ => runK3 a b x y l
  | 4, _ => runK4 a b x y l
  | 5, _ => runK5 a b x y l
  | 6, _ => runK6 a b x y l
  | 7, _ => runK7 a b x y l
  | 8, _ => runK8 a b x y l
  | 9, _ => runK9 a b x y l
  | 10, _ => runK10 a b x y l
  | 11, _ => runK11 a b x y l
  | 12, _ => runK12 a b x y l
  | 13, _ => runK13 a b x y l
  | 14, _ => runK14 a b x y l
  | 15, _ => runK15 a b x y l
  | n + 16, h => absurd h (by omega)

def cutK (a b x y : List Int) (S : St) : T (Ex × St) := match S.tmps.getD 8 .tt, Go.Sx.look S.mem 12 with
  | .lit _ i, some (.st _ [.ints _ _ l]) => ifT (keepOk ksK S) (.need (0 ≤ i ∧ i < 16 ∧ Sx.forget ksK S = hdK a b x y i l) (.ret (.normal, outK a b x y i (mrow (x.getD i.toNat 0) y i.toNat 16 l))))
  | _, _ => .fail "another head"
def blK (a b x y : List Int) : Blocks := fun i => match Nat.beq i 2 with
  | true => some (cutK a b x y)
  | false => none

theorem cutK_ok {Γ : Gam} (hc : CxOk Tryd.prog Γ.G cxK) (hg : GlobOk Γ) (h0 : Γ.G Γ.w0) (hz : Γ.n0 = 0) (a b x y : List Int) : ∀ S e S', T.Reach (cutK a b x y S) (e, S') → Go.Sx.Comes Tryd.prog Γ (.block 2 bodyK) S e S' := by
  intro S e S' hr
  unfold cutK at hr
  split at hr
  · rename_i l _ _
    obtain ⟨hk, hr⟩ := ifT_reach hr
    simp only [T.reach_need, T.reach_ret] at hr
    obtain ⟨⟨h1, h2, h3⟩, he⟩ := hr
    cases he
    rename_i i _
    obtain ⟨n, rfl⟩ := Int.eq_ofNat_of_zero_le h1
    exact cut_rule hc hg h0 (drawS_sound hc hg h0) (bl := no) (blocksIn_none _) 100 ksK jsK (by rw [hz]; exact Nat.zero_le _) (by rw [hz]; exact Nat.zero_le _) (runK a b x y l n (by omega)) hk h3
  · exact (T.reach_fail hr).elim

theorem blK_in {Γ : Gam} (hc : CxOk Tryd.prog Γ.G cxK) (hg : GlobOk Γ) (h0 : Γ.G Γ.w0) (hz : Γ.n0 = 0) (a b x y : List Int) : BlocksIn Tryd.prog Γ (blK a b x y) (body Tryd.f35) := by
  refine blocksIn_of _ fun id f hf c hb => ?_
  have hid : id = 2 := by
    simp only [blK] at hf
    split at hf
    · rename_i h; exact Nat.eq_of_beq_eq_true h
    · cases hf
  subst hid
  have hbl : blksL (body Tryd.f35) 2 = [bodyK] := by kernel_rfl
  rw [hbl] at hb
  have hb := List.mem_singleton.1 hb
  subst hb
  have hf : cutK a b x y = f := by simpa [blK] using hf
  subst hf
  exact cutK_ok hc hg h0 hz a b x y

def ndK (a b x y : List Int) (t : T SV) : Nat → T SV
  | 0 => t
  | n + 1 => .need (0 ≤ ((15 - n : Nat) : Int) ∧ ((15 - n : Nat) : Int) < 16 ∧ hdK a b x y (15 - n : Nat) (mall x y (15 - n)) = hdK a b x y (15 - n : Nat) (mall x y (15 - n))) (ndK a b x y t n)
theorem ndK_good {a b x y : List Int} {t : T SV} {Q : SV → Prop} (h : t.good Q) : ∀ n, (ndK a b x y t n).good Q
  | 0 => h
  | n + 1 => ⟨⟨by omega, by omega, rfl⟩, ndK_good h n⟩
theorem run19 (a b : List Int) : runX cxK (blK a b (toD 16 (val a)) (toD 16 (val b))) 100 Tryd.f35 (body Tryd.f35) (can l2 [.l a, .l b]) gmT =
  dig1T a fun x => dig1T b fun y => ndK a b x y (belT (rmulV x y) fun r => l11 r) 16 := by kernel_rfl
end Go.Proofs.YtkhooaaidmoogaaDoor

/- The document's answer for the field: the product is the product. -/
namespace Go.Proofs.YtkhooaaidmoogaaDoor
open Go Go.Sx
set_option maxRecDepth 100000

def dv : List Int → Int
  | [] => 0
  | x :: l => x + 65536 * dv l
def Bd (B : Int) (l : List Int) : Prop := ∀ x ∈ l, 0 ≤ x ∧ x ≤ B

theorem dv_set : ∀ (l : List Int) (j : Nat) (v : Int), j < l.length → dv (l.set j v) = dv l + 65536 ^ j * (v - l.getD j 0)
  | [], j, v, h => by simp at h
  | x :: l, 0, v, _ => by simp [dv]; omega
  | x :: l, j + 1, v, h => by
    have ih := dv_set l j v (by simpa using h)
    simp only [List.set_cons_succ, dv, ih, List.getD_cons_succ, Int.pow_succ]
    generalize v - l.getD j 0 = w
    rw [Int.mul_add, Int.mul_comm (65536 ^ j) 65536, Int.mul_assoc]
    omega

theorem dv_take_succ : ∀ (l : List Int) (k : Nat), k < l.length → dv (l.take (k + 1)) = dv (l.take k) + 65536 ^ k * l.getD k 0
  | [], k, h => by simp at h
  | x :: l, 0, _ => by simp [dv]
  | x :: l, k + 1, h => by
    have ih := dv_take_succ l k (by simpa using h)
    simp only [List.take_succ_cons, dv, List.getD_cons_succ, Int.pow_succ]
    rw [ih, Int.mul_add, Int.mul_comm (65536 ^ k) 65536, Int.mul_assoc]
    omega

theorem Bd.getD {B : Int} {l : List Int} (h : Bd B l) (hB : 0 ≤ B) (j : Nat) : 0 ≤ l.getD j 0 ∧ l.getD j 0 ≤ B := by
  rw [List.getD_eq_getElem?_getD]
  cases e : l[j]? with
  | none => simp; exact hB
  | some x => exact h x (List.mem_of_getElem? e)
theorem Bd.set {B C : Int} {l : List Int} (h : Bd B l) (j : Nat) {v : Int} (hBC : B ≤ C) (hv : 0 ≤ v ∧ v ≤ C) : Bd C (l.set j v) := fun x hx => by
  rcases List.mem_or_eq_of_mem_set hx with hx | rfl
  · have := h x hx; omega
  · exact hv
theorem Bd.mono {B C : Int} {l : List Int} (h : Bd B l) (hBC : B ≤ C) : Bd C l := fun x hx => by have := h x hx; omega

theorem put32 (l : List Int) (j : Nat) (v : Int) : putL l j 32 1 [v] = l.set j v := rfl
theorem put16 (l : List Int) (j : Nat) (v : Int) : putL l j 16 1 [v] = l.set j v := rfl
theorem put4 (l : List Int) (j : Nat) (v : Int) : putL l j 4 1 [v] = l.set j v := rfl

theorem prod16 {x y : Int} (hx : 0 ≤ x ∧ x ≤ 65535) (hy : 0 ≤ y ∧ y ≤ 65535) : 0 ≤ x * y ∧ x * y ≤ 4294836225 := by
  have h0 : 0 ≤ x * y := Int.mul_nonneg hx.1 hy.1
  have h1 : x * y ≤ 65535 * 65535 := Int.mul_le_mul hx.2 hy.2 hy.1 (by omega)
  omega

theorem mstep_spec {B x y : Int} {j : Nat} {l : List Int} (hl : l.length = 32) (hj : j < 32) (hb : Bd B l) (hB0 : 0 ≤ B) (hB : B ≤ 4611686018427387904) (hx : 0 ≤ x ∧ x ≤ 65535) (hy : 0 ≤ y ∧ y ≤ 65535) :
    (mstep x y j l).length = 32 ∧ Bd (B + 4294836225) (mstep x y j l) ∧ dv (mstep x y j l) = dv l + 65536 ^ j * (x * y) := by
  have hp := prod16 hx hy
  have hg := hb.getD hB0 j
  unfold mstep
  rw [put32]
  simp only [wrap_u64]
  rw [Int.emod_eq_of_lt (a := x * y) hp.1 (by omega), Int.emod_eq_of_lt (by omega) (by omega)]
  refine ⟨by rw [List.length_set]; exact hl, hb.set j (by omega) (by omega), ?_⟩
  rw [dv_set _ _ _ (by omega)]
  congr 2
  omega

theorem mrow_spec {B x : Int} {y l : List Int} {i : Nat} (hl : l.length = 32) (hi : i < 16) (hb : Bd B l) (hB0 : 0 ≤ B) (hB : B ≤ 2305843009213693952) (hx : 0 ≤ x ∧ x ≤ 65535) (hy : Bd 65535 y) (hyl : y.length = 16) : ∀ k : Nat, k ≤ 16 →
    (mrow x y i k l).length = 32 ∧ Bd (B + k * 4294836225) (mrow x y i k l) ∧ dv (mrow x y i k l) = dv l + 65536 ^ i * (x * dv (y.take k))
  | 0, _ => by simp only [mrow]; exact ⟨hl, by simpa using hb, by simp [dv]⟩
  | k + 1, hk => by
    obtain ⟨h1, h2, h3⟩ := mrow_spec hl hi hb hB0 hB hx hy hyl k (by omega)
    obtain ⟨g1, g2, g3⟩ := mstep_spec (j := i + k) h1 (by omega) h2 (by omega) (by omega) hx (hy.getD (by omega) k)
    refine ⟨g1, g2.mono (by omega), ?_⟩
    simp only [mrow]
    rw [g3, h3, dv_take_succ y k (by omega), Int.pow_add]
    grind

theorem mall_spec {x y : List Int} (hx : Bd 65535 x) (hy : Bd 65535 y) (hyl : y.length = 16) (hxl : x.length = 16) : ∀ i : Nat, i ≤ 16 →
    (mall x y i).length = 32 ∧ Bd (i * 68717379600) (mall x y i) ∧ dv (mall x y i) = dv (x.take i) * dv y
  | 0, _ => by
    refine ⟨by simp [mall], fun z hz => ?_, by simp [mall, dv]⟩
    simp only [mall, List.mem_replicate] at hz
    omega
  | i + 1, hi => by
    obtain ⟨h1, h2, h3⟩ := mall_spec hx hy hyl hxl i (by omega)
    obtain ⟨g1, g2, g3⟩ := mrow_spec (i := i) h1 (by omega) h2 (by omega) (by omega) (hx.getD (by omega) i) hy hyl 16 (Nat.le_refl _)
    refine ⟨g1, g2.mono (by omega), ?_⟩
    simp only [mall]
    rw [g3, h3, dv_take_succ x i (by omega), show y.take 16 = y from List.take_of_length_le (by omega)]
    grind

theorem mlow_spec {all : List Int} (hb : Bd 1099478073600 all) (hl : all.length = 32) : ∀ i : Nat, i ≤ 16 →
    (mlow all i).length = 16 ∧ Bd 42879644870400 (mlow all i) ∧ dv (mlow all i) = dv (all.take i) + 38 * dv ((all.drop 16).take i) ∧ ∀ j, i ≤ j → (mlow all i).getD j 0 = 0
  | 0, _ => by
    refine ⟨by simp [mlow], fun z hz => ?_, by simp [mlow, dv], fun j _ => ?_⟩
    · simp only [mlow, List.mem_replicate] at hz; omega
    · simp only [mlow, List.getD_eq_getElem?_getD, List.getElem?_replicate]; split <;> rfl
  | i + 1, hi => by
    obtain ⟨h1, h2, h3, h4⟩ := mlow_spec hb hl i (by omega)
    have a1 := hb.getD (by omega) i
    have a2 := hb.getD (by omega) (i + 16)
    simp only [mlow]
    rw [put16]
    simp only [wrap_u64]
    rw [Int.emod_eq_of_lt (a := 38 * all.getD (i + 16) 0) (by omega) (by omega), Int.emod_eq_of_lt (by omega) (by omega)]
    refine ⟨by rw [List.length_set]; exact h1, h2.set i (Int.le_refl _) (by omega), ?_, fun j hj => ?_⟩
    · rw [dv_set _ _ _ (by omega), h3, h4 i (Nat.le_refl _), dv_take_succ all i (by omega), dv_take_succ (all.drop 16) i (by rw [List.length_drop]; omega)]
      have e : (all.drop 16).getD i 0 = all.getD (i + 16) 0 := by
        rw [List.getD_eq_getElem?_getD, List.getD_eq_getElem?_getD, List.getElem?_drop, Nat.add_comm]
      rw [e]
      grind
    · rw [List.getD_eq_getElem?_getD, List.getElem?_set_ne (by omega), ← List.getD_eq_getElem?_getD]
      exact h4 j (by omega)

theorem dv_split : ∀ (l : List Int) (k : Nat), dv l = dv (l.take k) + 65536 ^ k * dv (l.drop k)
  | [], k => by simp [dv]
  | x :: l, 0 => by simp [dv]
  | x :: l, k + 1 => by
    have ih := dv_split l k
    simp only [List.take_succ_cons, List.drop_succ_cons, dv, Int.pow_succ]
    conv => lhs; rw [ih]
    rw [Int.mul_add, Int.mul_comm (65536 ^ k) 65536, Int.mul_assoc]
    omega

theorem dv_range {l : List Int} (h : Bd 65535 l) : 0 ≤ dv l ∧ dv l < 65536 ^ l.length := by
  induction l with
  | nil => simp [dv]
  | cons x l ih =>
    have h1 := h x (by simp)
    have h2 := ih (fun y hy => h y (by simp [hy]))
    simp only [dv, List.length_cons, Int.pow_succ]
    omega

theorem pass_spec {B : Int} {l : List Int} (hb : Bd B l) (hl : l.length = 16) (hB0 : 65535 ≤ B) (hB : B ≤ 4611686018427387904) : ∀ k : Nat, k ≤ 16 →
    (pass l k).1.length = 16 ∧ (0 ≤ (pass l k).2 ∧ (pass l k).2 ≤ B) ∧ Bd 65535 ((pass l k).1.take k) ∧ (∀ j, k ≤ j → (pass l k).1.getD j 0 = l.getD j 0) ∧ dv (pass l k).1 + 65536 ^ k * (pass l k).2 = dv l
  | 0, _ => ⟨hl, by simp only [pass]; omega, fun x hx => by simp at hx, fun _ _ => rfl, by simp [pass]⟩
  | k + 1, hk => by
    obtain ⟨h1, h2, h3, h4, h5⟩ := pass_spec hb hl hB0 hB k (by omega)
    have hg := hb.getD (by omega) k
    simp only [pass]
    generalize pass l k = r at *
    unfold pstep
    rw [put16, h4 k (Nat.le_refl _)]
    simp only [wrap_u64]
    rw [Int.emod_eq_of_lt (a := l.getD k 0 + r.2) (by omega) (by omega), Int.tmod_eq_emod_of_nonneg (by omega), Int.tdiv_eq_ediv_of_nonneg (by omega)]
    rw [Int.emod_eq_of_lt (a := (l.getD k 0 + r.2) / 65536) (by omega) (by omega)]
    refine ⟨by rw [List.length_set]; exact h1, by omega, fun x hx => ?_, fun j hj => ?_, ?_⟩
    · obtain ⟨i, hi, rfl⟩ := List.getElem_of_mem hx
      simp only [List.length_take, List.length_set] at hi
      rw [List.getElem_take, List.getElem_set]
      split
      · omega
      · refine h3 _ ?_
        rw [List.mem_take_iff_getElem]
        exact ⟨i, by omega, rfl⟩
    · rw [List.getD_eq_getElem?_getD, List.getElem?_set_ne (by omega), ← List.getD_eq_getElem?_getD]
      exact h4 j (by omega)
    · rw [dv_set _ _ _ (by omega), h4 k (Nat.le_refl _), Int.pow_succ]
      have hs : l.getD k 0 + r.2 = (l.getD k 0 + r.2) % 65536 + 65536 * ((l.getD k 0 + r.2) / 65536) := by omega
      generalize (l.getD k 0 + r.2) % 65536 = m at *
      generalize (l.getD k 0 + r.2) / 65536 = q at *
      generalize l.getD k 0 = g at *
      rw [← h5]
      have e : r.2 = m + 65536 * q - g := by omega
      rw [e]
      grind

abbrev T256 : Int := 115792089237316195423570985008687907853269984665640564039457584007913129639936
theorem t256 : (65536 : Int) ^ 16 = T256 := by decide +kernel

theorem pass38_spec {B : Int} {l : List Int} (hb : Bd B l) (hl : l.length = 16) (hB0 : 65535 ≤ B) (hB : B ≤ 72057594037927936) :
    (pass38 l).length = 16 ∧ (0 ≤ dv l / T256 ∧ dv l / T256 ≤ B) ∧ Bd (65535 + 38 * (dv l / T256)) (pass38 l) ∧ dv (pass38 l) = dv l % T256 + 38 * (dv l / T256) := by
  obtain ⟨h1, h2, h3, -, h5⟩ := pass_spec hb hl hB0 (by omega) 16 (Nat.le_refl _)
  rw [List.take_of_length_le (by omega)] at h3
  have hr := dv_range h3
  rw [h1, t256] at hr
  rw [t256] at h5
  unfold pass38
  generalize pass l 16 = r at *
  have e1 : dv l / T256 = r.2 := by rw [← h5, Int.add_mul_ediv_left _ _ (by decide), Int.ediv_eq_zero_of_lt hr.1 hr.2]; omega
  have e2 : dv l % T256 = dv r.1 := by rw [← h5, Int.add_mul_emod_self_left, Int.emod_eq_of_lt hr.1 hr.2]
  have hg := h3.getD (by omega) 0
  rw [e1, e2, put16]
  simp only [wrap_u64]
  rw [Int.emod_eq_of_lt (a := 38 * r.2) (by omega) (by omega), Int.emod_eq_of_lt (a := r.1.getD 0 0 + 38 * r.2) (by omega) (by omega)]
  refine ⟨by rw [List.length_set]; exact h1, h2, h3.set 0 (by omega) (by omega), ?_⟩
  rw [dv_set _ _ _ (by omega), Int.pow_zero]
  omega
end Go.Proofs.YtkhooaaidmoogaaDoor

/- The document's answer for the field: digits, and the product's contract. -/
namespace Go.Proofs.YtkhooaaidmoogaaDoor
open Go Go.Sx
set_option maxRecDepth 100000

theorem or16 (a b : Int) (k : Nat) (ha : 0 ≤ a ∧ a < 2 ^ k) (hb : 0 ≤ b ∧ b ≤ 65535) (hk : k ≤ 48) : bitsI .or .u64 a (shlI .u64 b (k : Int)) = a + 2 ^ k * b := by
  obtain ⟨A, rfl⟩ := Int.eq_ofNat_of_zero_le ha.1
  obtain ⟨B, rfl⟩ := Int.eq_ofNat_of_zero_le hb.1
  have hA : A < 2 ^ k := by have := ha.2; rw [show (2 : Int) ^ k = ((2 ^ k : Nat) : Int) by simp] at this; omega
  have hB : B ≤ 65535 := by omega
  have h2 : (2 : Nat) ^ k ≤ 2 ^ 48 := Nat.pow_le_pow_right (by decide) hk
  have hp : 2 ^ k * B < 18446744073709551616 := by
    have : 2 ^ k * B ≤ 2 ^ 48 * 65535 := Nat.mul_le_mul h2 (by omega)
    omega
  have e : shlI .u64 (B : Int) (k : Int) = ((2 ^ k * B : Nat) : Int) := by
    simp only [shlI, IntKind.bits, Int.toNat_natCast, Nat.min_eq_left (show k ≤ 64 by omega), wrap_u64]
    rw [show (B : Int) * 2 ^ k = ((2 ^ k * B : Nat) : Int) by simp [Int.mul_comm]]
    exact Int.emod_eq_of_lt (by omega) (by omega)
  rw [e]
  have e2 : bitsI .or .u64 (A : Int) ((2 ^ k * B : Nat) : Int) = ((A ||| 2 ^ k * B : Nat) : Int) := u64_or_nat A (2 ^ k * B) (by omega) hp
  rw [e2, Nat.or_comm, ← Nat.two_pow_add_eq_or_of_lt hA]
  simp
  omega

def w4 (a b c d : Int) : Int := bitsI .or .u64 (bitsI .or .u64 (bitsI .or .u64 (bitsI .or .u64 0 (shlI .u64 a 0)) (shlI .u64 b 16)) (shlI .u64 c 32)) (shlI .u64 d 48)
theorem w4_eq (a b c d : Int) (h : Bd 65535 [a, b, c, d]) : w4 a b c d = a + 65536 * b + 4294967296 * c + 281474976710656 * d := by
  simp only [Bd, List.mem_cons, List.not_mem_nil, or_false, forall_eq_or_imp, forall_eq] at h
  obtain ⟨h0, h1, h2, h3⟩ := h
  have e0 := or16 0 a 0 (by omega) h0 (by omega)
  have e1 := or16 a b 16 (by omega) h1 (by omega)
  have e2 := or16 (a + 65536 * b) c 32 (by omega) h2 (by omega)
  have e3 := or16 (a + 65536 * b + 4294967296 * c) d 48 (by omega) h3 (by omega)
  simp only [Int.reducePow, Int.zero_add, Int.one_mul, Int.pow_zero, Int.cast_ofNat_Int] at e0 e1 e2 e3
  unfold w4
  rw [e0, e1, e2, e3]

/-- The words of digits. -/
def ocell (l : List Int) (o : List Int) (k : Nat) : List Int := putL o (k / 4) 4 1 [bitsI .or .u64 (o.getD (k / 4) 0) (shlI .u64 (l.getD k 0) (16 * (k % 4) : Nat))]
def oall (l : List Int) : Nat → List Int
  | 0 => [0, 0, 0, 0]
  | k + 1 => ocell l (oall l k) k
theorem opass_eq {l : List Int} (h : Bd 65535 l) : ∀ k : Nat, opass l k = (oall l k, 0)
  | 0 => rfl
  | k + 1 => by
    have hg := h.getD (by omega) k
    simp only [opass, ostep, oall, ocell, opass_eq h k, wrap_u64, Int.add_zero]
    rw [Int.emod_eq_of_lt (a := l.getD k 0) (by omega) (by omega), Int.tmod_eq_emod_of_nonneg (by omega), Int.emod_eq_of_lt (a := l.getD k 0) (b := 65536) (by omega) (by omega), Int.tdiv_eq_ediv_of_nonneg (by omega), Int.ediv_eq_zero_of_lt (by omega) (by omega)]
    rfl
theorem oall16 (d0 d1 d2 d3 d4 d5 d6 d7 d8 d9 d10 d11 d12 d13 d14 d15 : Int) : oall [d0, d1, d2, d3, d4, d5, d6, d7, d8, d9, d10, d11, d12, d13, d14, d15] 16 = [w4 d0 d1 d2 d3, w4 d4 d5 d6 d7, w4 d8 d9 d10 d11, w4 d12 d13 d14 d15] := by kernel_rfl
theorem len16 {l : List Int} (h : l.length = 16) : ∃ d0 d1 d2 d3 d4 d5 d6 d7 d8 d9 d10 d11 d12 d13 d14 d15, l = [d0, d1, d2, d3, d4, d5, d6, d7, d8, d9, d10, d11, d12, d13, d14, d15] := by
  match l, h with
  | [d0, d1, d2, d3, d4, d5, d6, d7, d8, d9, d10, d11, d12, d13, d14, d15], _ => exact ⟨d0, d1, d2, d3, d4, d5, d6, d7, d8, d9, d10, d11, d12, d13, d14, d15, rfl⟩

theorem opass_val {l : List Int} (h : Bd 65535 l) (hl : l.length = 16) : U64 (opass l 16).1 ∧ (opass l 16).1.length = 4 ∧ val (opass l 16).1 = dv l := by
  rw [opass_eq h]
  obtain ⟨d0, d1, d2, d3, d4, d5, d6, d7, d8, d9, d10, d11, d12, d13, d14, d15, rfl⟩ := len16 hl
  rw [oall16]
  simp only [Bd, List.mem_cons, List.not_mem_nil, or_false, forall_eq_or_imp, forall_eq] at h
  obtain ⟨h0, h1, h2, h3, h4, h5, h6, h7, h8, h9, h10, h11, h12, h13, h14, h15⟩ := h
  have m (a b c d : Int) (ha : 0 ≤ a ∧ a ≤ 65535) (hb : 0 ≤ b ∧ b ≤ 65535) (hc : 0 ≤ c ∧ c ≤ 65535) (hd : 0 ≤ d ∧ d ≤ 65535) : w4 a b c d = a + 65536 * b + 4294967296 * c + 281474976710656 * d :=
    w4_eq a b c d (by simp only [Bd, List.mem_cons, List.not_mem_nil, or_false, forall_eq_or_imp, forall_eq]; exact ⟨ha, hb, hc, hd⟩)
  rw [m d0 d1 d2 d3 h0 h1 h2 h3, m d4 d5 d6 d7 h4 h5 h6 h7, m d8 d9 d10 d11 h8 h9 h10 h11, m d12 d13 d14 d15 h12 h13 h14 h15]
  refine ⟨u64_4.2 ⟨by omega, by omega, by omega, by omega⟩, rfl, ?_⟩
  simp only [val, dv]
  omega

theorem toD_length (k : Nat) (n : Int) : (toD k n).length = k := by induction k generalizing n <;> simp [toD, *]
theorem toD_bd : ∀ (k : Nat) (n : Int), Bd 65535 (toD k n)
  | 0, n, x, hx => by simp [toD] at hx
  | k + 1, n, x, hx => by
    rcases List.mem_cons.1 hx with rfl | hx
    · omega
    · exact toD_bd k _ x hx
theorem dv_toD : ∀ (k : Nat) (n : Int), 0 ≤ n → n < 65536 ^ k → dv (toD k n) = n
  | 0, n, h0, h1 => by simp at h1; simp [toD, dv]; omega
  | k + 1, n, h0, h1 => by
    simp only [toD, dv]
    rw [Int.pow_succ] at h1
    rw [dv_toD k (n / 65536) (by omega) (Int.ediv_lt_of_lt_mul (by decide) h1)]
    omega

theorem fold38 (u v : Int) : (u + T256 * v) % P25 = (u + 38 * v) % P25 := by
  rw [show u + T256 * v = u + 38 * v + P25 * (2 * v) by simp only [T256, P25]; omega, Int.add_mul_emod_self_left]

theorem red38 (z : Int) : (z % T256 + 38 * (z / T256)) % P25 = z % P25 := by
  have := fold38 (z % T256) (z / T256)
  rw [Int.emod_add_mul_ediv z T256] at this
  exact this.symm
theorem T_pos : (0 : Int) < T256 := by decide
theorem T_big : (1629426505140735 : Int) * 4 < T256 := by decide
/-- A number that is folded twice is below 2^256. -/
theorem twice38 (z : Int) (h : 0 ≤ z / T256 ∧ z / T256 ≤ 42879644870400) : let y := z % T256 + 38 * (z / T256)
    0 ≤ y % T256 + 38 * (y / T256) ∧ y % T256 + 38 * (y / T256) < T256 := by
  intro y
  have hT := T_pos
  have hB := T_big
  have m0 := Int.emod_nonneg z (show T256 ≠ 0 by decide)
  have m1 := Int.emod_lt_of_pos z hT
  have m2 := Int.emod_nonneg y (show T256 ≠ 0 by decide)
  have m3 := Int.emod_lt_of_pos y hT
  have e := Int.emod_add_mul_ediv y T256
  have hy : y = z % T256 + 38 * (z / T256) := rfl
  clear_value y
  generalize z % T256 = u at *
  generalize z / T256 = v at *
  have hlt : y < 2 * T256 := by generalize T256 = T at *; omega
  have h0 : 0 ≤ y / T256 := Int.ediv_nonneg (by omega) (by omega)
  have h1 := Int.ediv_lt_of_lt_mul hT hlt
  generalize y % T256 = r at *
  have : y / T256 = 0 ∨ y / T256 = 1 := by omega
  rcases this with h | h <;> rw [h] at e ⊢ <;> generalize T256 = T at * <;> omega

theorem mlow_mod (m : List Int) (a1 : m.length = 32) (a2 : Bd 1099478073600 m) : (mlow m 16).length = 16 ∧ Bd 42879644870400 (mlow m 16) ∧ dv (mlow m 16) % P25 = dv m % P25 := by
  obtain ⟨b1, b2, b3, -⟩ := mlow_spec a2 a1 16 (Nat.le_refl _)
  have hsplit := dv_split m 16
  have e : (m.drop 16).take 16 = m.drop 16 := List.take_of_length_le (by rw [List.length_drop]; omega)
  rw [e] at b3
  refine ⟨b1, b2, ?_⟩
  rw [hsplit, b3, t256, fold38]

theorem fold_end (l2 : List Int) (d1 : l2.length = 16) (d3 : Bd 61918207195413465 l2) (n2 : 0 ≤ dv l2 ∧ dv l2 < T256) :
    U64 (opass (pass38 l2) 16).1 ∧ (opass (pass38 l2) 16).1.length = 4 ∧ val (opass (pass38 l2) 16).1 = dv l2 := by
  obtain ⟨f1, -, f3, f4⟩ := pass38_spec d3 d1 (by omega) (by omega)
  have hq2 : dv l2 / T256 = 0 := Int.ediv_eq_zero_of_lt n2.1 n2.2
  rw [hq2, Int.emod_eq_of_lt n2.1 n2.2] at f4
  rw [hq2] at f3
  have f3 := f3.mono (show (65535 + 38 * 0 : Int) ≤ 65535 by omega)
  obtain ⟨g1, g2, g3⟩ := opass_val f3 f1
  exact ⟨g1, g2, by rw [g3, f4]; omega⟩

theorem fold_mid (z : Int) (l1 : List Int) (c1 : l1.length = 16) (c3 : Bd 1629426505140735 l1) (n2 : 0 ≤ dv l1 % T256 + 38 * (dv l1 / T256) ∧ dv l1 % T256 + 38 * (dv l1 / T256) < T256) (hz : dv l1 % P25 = z) :
    U64 (opass (pass38 (pass38 l1)) 16).1 ∧ (opass (pass38 (pass38 l1)) 16).1.length = 4 ∧ val (opass (pass38 (pass38 l1)) 16).1 % P25 = z := by
  obtain ⟨d1, d2, d3, d4⟩ := pass38_spec c3 c1 (by omega) (by omega)
  have d3 := d3.mono (show (65535 + 38 * (dv l1 / T256) : Int) ≤ 61918207195413465 by omega)
  obtain ⟨g1, g2, g3⟩ := fold_end (pass38 l1) d1 d3 (by rw [d4]; exact n2)
  exact ⟨g1, g2, by rw [g3, d4, red38]; exact hz⟩

theorem rmul_fold (l0 : List Int) (b1 : l0.length = 16) (b2 : Bd 42879644870400 l0) :
    U64 (opass (pass38 (pass38 (pass38 l0))) 16).1 ∧ (opass (pass38 (pass38 (pass38 l0))) 16).1.length = 4 ∧ val (opass (pass38 (pass38 (pass38 l0))) 16).1 % P25 = dv l0 % P25 := by
  obtain ⟨c1, c2, c3, c4⟩ := pass38_spec b2 b1 (by omega) (by omega)
  have c3 := c3.mono (show (65535 + 38 * (dv l0 / T256) : Int) ≤ 1629426505140735 by omega)
  have n2 := twice38 (dv l0) c2
  simp only at n2
  rw [← c4] at n2
  exact fold_mid _ (pass38 l0) c1 c3 n2 (by rw [c4, red38])

theorem rmul_spec {x y : List Int} (hx : Bd 65535 x) (hy : Bd 65535 y) (hxl : x.length = 16) (hyl : y.length = 16) :
    U64 (rmulV x y) ∧ (rmulV x y).length = 4 ∧ val (rmulV x y) % P25 = dv x * dv y % P25 := by
  obtain ⟨a1, a2, a3⟩ := mall_spec hx hy hyl hxl 16 (Nat.le_refl _)
  rw [List.take_of_length_le (by omega)] at a3
  obtain ⟨h1, h2, h3⟩ := mlow_mod _ a1 (a2.mono (by decide))
  obtain ⟨g1, g2, g3⟩ := rmul_fold _ h1 h2
  unfold rmulV
  exact ⟨g1, g2, by rw [g3, h3, a3]⟩

theorem fn19 (h56 : FnOk Tryd.prog GT 62 digC) : FnOk Tryd.prog GT 35 mulC := by
  refine fnOk_gd (cxT_ok (fns := [(62, digC), (63, belowC)]) ⟨h56, fn53, trivial⟩) gT Tryd.func35 (c := body Tryd.f35) (by kernel_rfl) (enters_of Tryd.func35 (by kernel_rfl) (by kernel_rfl)) (fuel := 100) ?_
  intro xs hfit hp
  obtain ⟨a, b, rfl, ha, hb⟩ := fit_l2 hfit
  obtain ⟨u1, u2⟩ := hp
  refine ⟨blK a b (toD 16 (val a)) (toD 16 (val b)), fun Γ hG h0 hg hz => blK_in (hG ▸ cxT_ok (fns := [(62, digC), (63, belowC)]) ⟨h56, fn53, trivial⟩) hg h0 hz a b _ _, fit_i4 _, Gd.of_eq (run19 a b) ⟨?_⟩⟩
  have ra := val4_range u1 ha
  have rb := val4_range u2 hb
  have ea := dv_toD 16 (val a) ra.1 (by rw [t256]; exact ra.2)
  have eb := dv_toD 16 (val b) rb.1 (by rw [t256]; exact rb.2)
  obtain ⟨s1, s2, s3⟩ := rmul_spec (toD_bd 16 (val a)) (toD_bd 16 (val b)) (toD_length 16 _) (toD_length 16 _)
  rw [ea, eb] at s3
  simp only [dig1T, belT, T.good]
  refine ⟨u1, u2, ndK_good ?_ 16⟩
  refine ⟨s1, fun ρ => ?_⟩
  rw [s3]
  rfl

/-! ### digits -/
theorem run56 (a : List Int) : runX (cxF []) no 100 Tryd.f62 (body Tryd.f62) (can l1 [.l a]) gmT = .ret (.ints .u64 16 [(shrI .u64 (a.getD 0 0) 0).tmod 65536, (shrI .u64 (a.getD 0 0) 16).tmod 65536, (shrI .u64 (a.getD 0 0) 32).tmod 65536, (shrI .u64 (a.getD 0 0) 48).tmod 65536, (shrI .u64 (a.getD 1 0) 0).tmod 65536, (shrI .u64 (a.getD 1 0) 16).tmod 65536, (shrI .u64 (a.getD 1 0) 32).tmod 65536, (shrI .u64 (a.getD 1 0) 48).tmod 65536, (shrI .u64 (a.getD 2 0) 0).tmod 65536, (shrI .u64 (a.getD 2 0) 16).tmod 65536, (shrI .u64 (a.getD 2 0) 32).tmod 65536, (shrI .u64 (a.getD 2 0) 48).tmod 65536, (shrI .u64 (a.getD 3 0) 0).tmod 65536, (shrI .u64 (a.getD 3 0) 16).tmod 65536, (shrI .u64 (a.getD 3 0) 32).tmod 65536, (shrI .u64 (a.getD 3 0) 48).tmod 65536]) := by kernel_rfl
theorem dig4 (x : Int) (hx : 0 ≤ x ∧ x < 18446744073709551616) : [(shrI .u64 x 0).tmod 65536, (shrI .u64 x 16).tmod 65536, (shrI .u64 x 32).tmod 65536, (shrI .u64 x 48).tmod 65536] = toD 4 x := by
  have s (k : Nat) (hk : k ≤ 64) : shrI .u64 x (k : Int) = x / 2 ^ k := shrI_u64 x k hk
  have s0 := s 0 (by omega)
  have s1 := s 16 (by omega)
  have s2 := s 32 (by omega)
  have s3 := s 48 (by omega)
  simp only [Int.cast_ofNat_Int, Int.reducePow, Int.pow_zero, Int.ediv_one] at s0 s1 s2 s3
  rw [s0, s1, s2, s3, Int.tmod_eq_emod_of_nonneg (by omega), Int.tmod_eq_emod_of_nonneg (by omega), Int.tmod_eq_emod_of_nonneg (by omega), Int.tmod_eq_emod_of_nonneg (by omega)]
  clear s s0 s1 s2 s3
  simp only [toD, List.cons.injEq, and_true, true_and]
  refine ⟨?_, ?_⟩ <;> omega
theorem toD_cons (k : Nat) (x v : Int) (hx : 0 ≤ x ∧ x < 18446744073709551616) : toD (k + 4) (x + 18446744073709551616 * v) = toD 4 x ++ toD k v := by
  simp only [toD, List.cons_append, List.nil_append, List.cons.injEq]
  refine ⟨by omega, by omega, by omega, by omega, ?_⟩
  congr 1
  omega
theorem fn56 : FnOk Tryd.prog GT 62 digC := by
  refine fnOk_ct (cxT_ok (fns := []) trivial) gT Tryd.func62 (c := body Tryd.f62) (by kernel_rfl) (enters_of Tryd.func62 (by kernel_rfl) (by kernel_rfl)) (bl := no) (fuel := 100) noBlT ?_
  intro xs hfit hp
  obtain ⟨a, rfl, ha⟩ := fit_l1 hfit
  have ua : U64 a := hp
  obtain ⟨a0, a1, a2, a3, rfl⟩ := len4 ha
  have hq := u64_4.1 ua
  obtain ⟨p0, p1, p2, p3⟩ := hq
  refine ⟨by simp [fit, fit1, toD_length], ?_⟩
  rw [run56]
  have e : toD 16 (val [a0, a1, a2, a3]) = toD 4 a0 ++ (toD 4 a1 ++ (toD 4 a2 ++ (toD 4 a3 ++ toD 0 0))) := by
    simp only [val]
    rw [toD_cons 12 a0 _ p0, toD_cons 8 a1 _ p1, toD_cons 4 a2 _ p2, toD_cons 0 a3 _ p3]
  rw [← dig4 a0 p0, ← dig4 a1 p1, ← dig4 a2 p2, ← dig4 a3 p3] at e
  simp only [outV, can1]
  rw [e]
  rfl
theorem fn19T : FnOk Tryd.prog GT 35 mulC := fn19 fn56
end Go.Proofs.YtkhooaaidmoogaaDoor

/- The document's answer for the field: powers, inverses, roots. -/
namespace Go.Proofs.YtkhooaaidmoogaaDoor
open Go Go.Sx
set_option maxRecDepth 100000

def ksR : Fg := ⟨[.keep, .keep, .keep, .keep, .keep, .keep, .soft] ++ List.replicate 22 .junk, 4, 7⟩
def jsR : Fg := ⟨[.keep, .keep, .keep, .keep, .keep, .keep, .junk] ++ List.replicate 22 .junk, 4, 7⟩
def memR (a n out : List Int) : Mem := [(0, .st true [.ints .u64 4 a]), (1, .st true [.ints .u64 4 n]), (2, .st true [.ints .u64 4 [0, 0, 0, 0]]), (4, .st true [.ints .u64 4 out])]
def invR (a n : List Int) (i : Int) (out : List Int) : St := ⟨[.ints .u64 4 a, .ints .u64 4 n, ptr0 0, ptr0 1, ptr0 2, ptr0 4, .int .i64 i] ++ junks 7 22, memR a n out, 7⟩
def outR (a n out : List Int) : St := ⟨[.ints .u64 4 a, .ints .u64 4 n, ptr0 0, ptr0 1, ptr0 2, ptr0 4] ++ junks 6 23, memR a n out, 7⟩
noncomputable def bodyR : Code := unloop (Code.blk (body Tryd.f65) 0)
noncomputable abbrev cxR : Cx := cxF [(35, mulC)]
theorem roundR (a n out : List Int) (i : Int) : endOf ksR jsR (exec cxR (drawS cxR) no 100 bodyR (invR a n i out)) =
  .ite (decide (i ≥ 0)) (.need (U64 out ∧ U64 out) (.need (0 ≤ IntKind.i64.wrap (i.tdiv 64) ∧ IntKind.i64.wrap (i.tdiv 64) < 4) (.need ((IntKind.i64.wrap (i.tdiv 64)).toNat + 1 ≤ 4) (.need (0 ≤ IntKind.u64.wrap (i.tmod 64))
      (.ite ((shrI .u64 (n.getD (IntKind.i64.wrap (i.tdiv 64)).toNat 0) (IntKind.u64.wrap (i.tmod 64))).tmod 2 == 1)
        (.need (U64 (toL 4 (val out * val out % P25)) ∧ U64 a) (.ret (.normal, invR a n (IntKind.i64.wrap (i - 1)) (toL 4 (val (toL 4 (val out * val out % P25)) * val a % P25)))))
        (.ret (.normal, invR a n (IntKind.i64.wrap (i - 1)) (toL 4 (val out * val out % P25)))))))))
  (.ret (.exit 0, outR a n out)) := by kernel_rfl
noncomputable def blR (a n out : List Int) : Blocks := fun i => match Nat.beq i 0 with
  | true => some (loopF ksR (invR a n 255 [1, 0, 0, 0]) (outR a n out))
  | false => none
theorem run61 (a n out : List Int) : runX cxR (blR a n out) 100 Tryd.f65 (body Tryd.f65) (can l2 [.l a, .l n]) gmT =
  .need (invR a n 255 [1, 0, 0, 0] = invR a n 255 [1, 0, 0, 0]) (.ret (.ints .u64 4 out)) := by kernel_rfl
noncomputable def InvR (a n : List Int) (i : Nat) : St := invR a n (255 - i) (toL 4 (val a ^ (val n / 2 ^ (256 - i)).toNat % P25))

theorem roundR_good (a n : List Int) (ua : U64 a) (un : U64 n) (_ : a.length = 4) (hn : n.length = 4) (i : Nat) (hi : i ≤ 256) : (endOf ksR jsR (exec cxR (drawS cxR) no 100 bodyR (InvR a n i))).good fun r => match r.1 with
      | .normal => ∃ i', i' ≤ 256 ∧ r.2 = InvR a n i' ∧ 256 - i' < 256 - i
      | .exit j => j = 0 ∧ r.2 = outR a n (toL 4 (val a ^ (val n).toNat % P25))
      | .ret => False := by
  have rn := val4_range un hn
  unfold InvR
  rw [roundR]
  simp only [T.good, decide_eq_true_eq, decide_eq_false_iff_not, ge_iff_le]
  refine ⟨fun hlt => ?_, fun hlt => ?_⟩
  · have hi' : i < 256 := by omega
    rw [wrap_i64 ((255 - (i : Int)).tdiv 64) (by rw [Int.tdiv_eq_ediv_of_nonneg (by omega)]; omega), wrap_i64 (255 - (i : Int) - 1) (by omega),
      Int.tdiv_eq_ediv_of_nonneg (by omega), Int.tmod_eq_emod_of_nonneg (by omega), wrap_u64, Int.emod_eq_of_lt (a := (255 - (i : Int)) % 64) (by omega) (by omega)]
    have hq : ((255 - (i : Int)) / 64).toNat = (255 - i) / 64 := by omega
    have hr : (255 - (i : Int)) % 64 = (((255 - i) % 64 : Nat) : Int) := by omega
    have hs : 64 * ((255 - i) / 64) + (255 - i) % 64 = 255 - i := by omega
    have hd := digit_bit n ((255 - i) / 64) ((255 - i) % 64) un (by omega)
    rw [hs] at hd
    refine ⟨⟨toL_u64 _ _, toL_u64 _ _⟩, by omega, by omega, by omega, ?_⟩
    have hg' := U64.getD un ((255 - i) / 64)
    have hdiv : 0 ≤ n.getD ((255 - i) / 64) 0 / 2 ^ ((255 - i) % 64) := Int.ediv_nonneg hg'.1 (Int.le_of_lt (Int.pow_pos (by decide)))
    rw [hq, hr, shrI_u64 _ _ (by omega), Int.tmod_eq_emod_of_nonneg hdiv, ← hd]
    have ei : (255 : Int) - i - 1 = 255 - ((i + 1 : Nat) : Int) := by omega
    rw [ei]
    simp only [val_toLP, pow_mul_mod, pow_mul_mod1, beq_iff_eq, beq_eq_false_iff_ne, ne_eq]
    refine ⟨fun hb => ⟨⟨toL_u64 _ _, ua⟩, i + 1, by omega, ?_, by omega⟩, fun hb => ⟨i + 1, by omega, ?_, by omega⟩⟩
    · rw [pow_step (val a) (val n) i rn.1 hi' 1 hb]; rfl
    · rw [pow_step (val a) (val n) i rn.1 hi' 0 (by omega)]; rfl
  · have : i = 256 := by omega
    subst this
    refine ⟨trivial, ?_⟩
    simp

theorem cxR_ok : CxOk Tryd.prog GT cxR := cxT_ok (fns := [(35, mulC)]) ⟨fn19T, trivial⟩
theorem fn61 : FnOk Tryd.prog GT 65 powC := by
  refine fnOk_lp cxR_ok gT Tryd.func65 (c := body Tryd.f65) (by kernel_rfl) (enters_of Tryd.func65 (by kernel_rfl) (by kernel_rfl)) (fuel := 100) ?_
  intro xs hfit hp
  obtain ⟨a, n, rfl, ha, hn⟩ := fit_l2 hfit
  obtain ⟨ua, un⟩ := hp
  have rn := val4_range un hn
  refine ⟨blR a n (toL 4 (val a ^ (val n).toNat % P25)), ?_, fit_i4 _, ?_⟩
  · intro Γ hG h0 hg hz
    refine blocksIn_of _ fun id f hf b hb => ?_
    have hid : id = 0 := by
      simp only [blR] at hf
      split at hf
      · rename_i h; exact Nat.eq_of_beq_eq_true h
      · cases hf
    subst hid
    have hbl : blksL (body Tryd.f65) 0 = [.loop bodyR] := by kernel_rfl
    rw [hbl] at hb
    have hb := List.mem_singleton.1 hb
    subst hb
    have hf : loopF ksR (invR a n 255 [1, 0, 0, 0]) (outR a n (toL 4 (val a ^ (val n).toNat % P25))) = f := by
      simpa [blR] using hf
    subst hf
    have e0 : invR a n 255 [1, 0, 0, 0] = InvR a n 0 := by
      unfold InvR
      rw [show val n / 2 ^ (256 - 0) = 0 from Int.ediv_eq_zero_of_lt rn.1 rn.2, show Int.toNat 0 = 0 from rfl, Int.pow_zero]
      rfl
    rw [e0]
    exact loop_rule (hG ▸ cxR_ok) hg h0 (drawS_sound (hG ▸ cxR_ok) hg h0) (bl := no) (blocksIn_none _) (InvR a n) (fun i => 256 - i) (fun i => i ≤ 256) _ 100 ksR jsR (by rw [hz]; exact Nat.zero_le _) (by rw [hz]; exact Nat.zero_le _)
      (roundR_good a n ua un ha hn) 0 (Nat.zero_le _)
  · rw [run61]
    simp only [T.good]
    exact ⟨trivial, rfl⟩

theorem run34 (a : List Int) : runX (cxF [(67, primeC), (66, takeC), (65, powC)]) no 100 Tryd.f43 (body Tryd.f43) (can l1 [.l a]) gmT = .need True (takeT primeL [2, 0, 0, 0] fun e => powT a e fun r => l11 r) := by kernel_rfl
theorem fn34 : FnOk Tryd.prog GT 43 invC := by
  refine fnOk_gd (cxT_ok (fns := [(67, primeC), (66, takeC), (65, powC)]) ⟨fn59, fn58, fn61, trivial⟩) gT Tryd.func43 (c := body Tryd.f43) (by kernel_rfl) (enters_of Tryd.func43 (by kernel_rfl) (by kernel_rfl)) (fuel := 100) ?_
  intro xs hfit hp
  obtain ⟨a, rfl, ha⟩ := fit_l1 hfit
  have ua : U64 a := hp
  have e : (val (toL 4 (val primeL - val [2, 0, 0, 0]))).toNat = 57896044618658097711785492504343953926634992332820282019728792003956564819947 := by decide
  refine ⟨no, noBlT, fit_i4 _, Gd.of_eq (run34 a) ⟨⟨trivial, ⟨uPrime, u64_4.2 (by decide)⟩, ⟨ua, ut4 _⟩, fun ρ => ?_⟩⟩⟩
  rw [e]
  rfl

def rrootT (u v : List Int) : T SV :=
  invT v fun i => mul2T u i fun q => powT q eighthL fun x => powT [2, 0, 0, 0] quarterL fun s =>
  mul2T x x fun xx => mul2T v xx fun w => sameT w u fun b =>
    .ite b (oddT x fun o => .ite o (neg1T x fun r => .ret (.tup [.ints .u64 4 r, .tt])) (belT x fun r => .ret (.tup [.ints .u64 4 r, .tt])))
      (mul2T x s fun x => mul2T x x fun xx => mul2T v xx fun w => sameT w u fun b =>
        .ite b (oddT x fun o => .ite o (neg1T x fun r => .ret (.tup [.ints .u64 4 r, .tt])) (belT x fun r => .ret (.tup [.ints .u64 4 r, .tt])))
          (mul2T x s fun _ => .ret (.tup [.ints .u64 4 [0, 0, 0, 0], .ff])))
abbrev Qr (U V r : Int) (w : SV) : Prop := ∀ ρ, w.den ρ = (outV [i4, .bool] [.l (toL 4 (endP U V r).1), .b (endP U V r).2]).den ρ
theorem rend_good (u v : List Int) (r : Int) (hr : r = r % P25) (hc : chkP (val u) (val v) r) :
    (oddT (toL 4 r) fun o => .ite o (neg1T (toL 4 r) fun r => .ret (.tup [.ints .u64 4 r, .tt])) (belT (toL 4 r) fun r => .ret (.tup [.ints .u64 4 r, .tt]))).good (Qr (val u) (val v) r) := by
  have hv : val (toL 4 r) = r := by rw [hr, val_toLP]
  simp only [oddT, neg1T, belT, T.good, hv]
  refine ⟨ut4 _, fun ho => ⟨ut4 _, fun ρ => ?_⟩, fun ho => ⟨ut4 _, fun ρ => ?_⟩⟩
  · simp only [endP, if_pos hc, if_pos (of_decide_eq_true ho)]
    rfl
  · simp only [endP, if_pos hc, if_neg (of_decide_eq_false ho)]
    rw [← hr]
    rfl

end Go.Proofs.YtkhooaaidmoogaaDoor

/- The field's contracts, in classes; what the curve's statements take of the listed variables. -/
namespace Go.Proofs.YtkhooaaidmoogaaDoor
open Go Go.Sx
set_option maxRecDepth 100000

/-- A contract's answer told in other words. -/
theorem ct_cong {P : Program} {G : World → Prop} {g : FuncId} {ks : List AK} {pre : List AV → Prop} {ks' : List AK} {res res' : List AV → List AV} (h : FnOk P G g (ct ks pre ks' res)) (e : ∀ xs, res xs = res' xs) : FnOk P G g (ct ks pre ks' res') := by
  have : res = res' := funext e
  rw [← this]; exact h

abbrev GC : World → Prop := fun w => GF w ∧ GS w
theorem GC_keep (w w' : World) (hb : Go.RowKit.Below w.heap.size w w') (h : GC w) : GC w' := ⟨GF_keep w w' hb h.1, GS_keep w w' hb h.2⟩
theorem cxC_ok {fns : List (Nat × (List SV → T SV))} (h : FnsOk Tryd.prog GC fns) : CxOk Tryd.prog GC (cxF fns) := cxOk_of tab_ok exts_ok h GC_keep (by kernel_rfl)
theorem gmC_is : GlobIs GC [] := by constructor <;> intros <;> rename_i h <;> cases h
theorem noBlC {c : Code} : ∀ Γ : Gam, Γ.G = GC → Γ.G Γ.w0 → GlobOk Γ → Γ.n0 = 0 → BlocksIn Tryd.prog Γ no c := fun _ _ _ _ _ => blocksIn_none c
abbrev toC {g : FuncId} {spec : List SV → T SV} (h : FnOk Tryd.prog GF g spec) : FnOk Tryd.prog GC g spec := h.mono fun _ h => h.1
abbrev toCS {g : FuncId} {spec : List SV → T SV} (h : FnOk Tryd.prog GS g spec) : FnOk Tryd.prog GC g spec := h.mono fun _ h => h.2
abbrev toCT {g : FuncId} {spec : List SV → T SV} (h : FnOk Tryd.prog GT g spec) : FnOk Tryd.prog GC g spec := h.mono fun _ _ => trivial

open Go.Nt (cls digs)
abbrev preU1 : List AV → Prop := fun | [.l a] => U64 a | _ => False
abbrev mulK : List SV → T SV := ct l2 preU2 [i4] (fun | [.l a, .l b] => [.l (digs (cls a * cls b))] | _ => [])
abbrev addK : List SV → T SV := ct l2 preU2 [i4] (fun | [.l a, .l b] => [.l (digs (cls a + cls b))] | _ => [])
abbrev subK : List SV → T SV := ct l2 preU2 [i4] (fun | [.l a, .l b] => [.l (digs (cls a - cls b))] | _ => [])
abbrev negK : List SV → T SV := ct l1 preU1 [i4] (fun | [.l a] => [.l (digs (-cls a))] | _ => [])
abbrev invK : List SV → T SV := ct l1 preU1 [i4] (fun | [.l a] => [.l (digs (Nt.inv (cls a)))] | _ => [])
abbrev leastK : List SV → T SV := ct l1 preU1 [i4] (fun | [.l a] => [.l (digs (cls a))] | _ => [])
abbrev sameK : List SV → T SV := ct l2 preU2 [.bool] (fun | [.l a, .l b] => [.b (decide (cls a = cls b))] | _ => [])

theorem k_add (a b : List Int) : toL 4 ((val a + val b) % P25) = digs (cls a + cls b) := by rw [digs_cp, cp_add]; rfl
theorem k_sub (a b : List Int) : toL 4 ((val a - val b) % P25) = digs (cls a - cls b) := by rw [digs_cp, cp_sub]; rfl
theorem k_mul (a b : List Int) : toL 4 ((val a * val b) % P25) = digs (cls a * cls b) := by rw [digs_cp, cp_mul]; rfl
theorem k_neg (a : List Int) : toL 4 ((-val a) % P25) = digs (-cls a) := by rw [digs_cp, cp_neg]; rfl
theorem k_inv (a : List Int) : toL 4 (val a ^ 57896044618658097711785492504343953926634992332820282019728792003956564819947 % P25) = digs (Nt.inv (cls a)) := by
  rw [← cp_val, ← cp_inv, ← digs_cp, Int.emod_emod_of_dvd _ (Int.dvd_refl P25)]
theorem k_least (a : List Int) : toL 4 (val a % P25) = digs (cls a) := by rw [digs_cp]; rfl
theorem k_same (a b : List Int) : decide (val a % P25 = val b % P25) = decide (cls a = cls b) := decide_eq_decide.2 (by rw [← cp_val, ← cp_val, cp_eq])

section
variable {G : World → Prop} {g : FuncId}
theorem kAdd (h : FnOk Tryd.prog G g addC) : FnOk Tryd.prog G g addK := ct_cong h fun xs => by split <;> simp only [k_add]
theorem kSub (h : FnOk Tryd.prog G g subC) : FnOk Tryd.prog G g subK := ct_cong h fun xs => by split <;> simp only [k_sub]
theorem kMul (h : FnOk Tryd.prog G g mulC) : FnOk Tryd.prog G g mulK := ct_cong h fun xs => by split <;> simp only [k_mul]
theorem kNeg (h : FnOk Tryd.prog G g negC) : FnOk Tryd.prog G g negK := ct_cong h fun xs => by split <;> simp only [k_neg]
theorem kInv (h : FnOk Tryd.prog G g invC) : FnOk Tryd.prog G g invK := ct_cong h fun xs => by split <;> simp only [k_inv]
theorem kLeast (h : FnOk Tryd.prog G g belowC) : FnOk Tryd.prog G g leastK := ct_cong h fun xs => by split <;> simp only [k_least]
theorem kSame (h : FnOk Tryd.prog G g sameC) : FnOk Tryd.prog G g sameK := ct_cong h fun xs => by split <;> simp only [k_same]
end
theorem cAdd : FnOk Tryd.prog GC 31 addK := kAdd (toC fn14)
theorem cSub : FnOk Tryd.prog GC 34 subK := kSub (toC (fn16 fn20))
theorem cMul : FnOk Tryd.prog GC 30 mulK := kMul (toC fn18)
theorem cNeg : FnOk Tryd.prog GC 45 negK := kNeg (toC fn20)
theorem cInv : FnOk Tryd.prog GC 54 invK := kInv (toC fn33)
theorem cSame : FnOk Tryd.prog GC 23 sameK := kSame (toC fn27)
theorem cSmall : FnOk Tryd.prog GC 32 smallC := toC fn26
theorem cRoot : FnOk Tryd.prog GC 55 rootC := toC fn31
theorem rAdd : FnOk Tryd.prog GC 36 addK := kAdd (toCT fn15)
theorem rSub : FnOk Tryd.prog GC 38 subK := kSub (toCT fn17)
theorem rMul : FnOk Tryd.prog GC 35 mulK := kMul (toCT fn19T)
theorem rNeg : FnOk Tryd.prog GC 46 negK := kNeg (toCT fn21)
theorem rInv : FnOk Tryd.prog GC 43 invK := kInv (toCT fn34)
theorem rLeast : FnOk Tryd.prog GC 63 leastK := kLeast (toCT fn53)
theorem sBytes : FnOk Tryd.prog GC 47 bytesSC := toCS fn46
theorem sAdd : FnOk Tryd.prog GC 26 addSC := toCS fn36
theorem sMul : FnOk Tryd.prog GC 27 mulSC := toCS fn38
theorem sNeg : FnOk Tryd.prog GC 24 negSC := toCS fn40
theorem rLeastS : FnOk Tryd.prog GC 49 belowSC := toCT fn65

def mulD {α : Type} (a b : List Int) (k : List Int → T α) : T α := .need (U64 a ∧ U64 b) (k (digs (cls a * cls b)))
def addD {α : Type} (a b : List Int) (k : List Int → T α) : T α := .need (U64 a ∧ U64 b) (k (digs (cls a + cls b)))
def subD {α : Type} (a b : List Int) (k : List Int → T α) : T α := .need (U64 a ∧ U64 b) (k (digs (cls a - cls b)))
def negD {α : Type} (a : List Int) (k : List Int → T α) : T α := .need (U64 a) (k (digs (-cls a)))
def invD {α : Type} (a : List Int) (k : List Int → T α) : T α := .need (U64 a) (k (digs (Nt.inv (cls a))))
def leastD {α : Type} (a : List Int) (k : List Int → T α) : T α := .need (U64 a) (k (digs (cls a)))
def sameD {α : Type} (a b : List Int) (k : Bool → T α) : T α := .need (U64 a ∧ U64 b) (k (decide (cls a = cls b)))

noncomputable abbrev runC (fns : List (Nat × (List SV → T SV))) (f : Func) (args : List SV) : T SV := runX (cxF fns) no 100 f (body f) args []
end Go.Proofs.YtkhooaaidmoogaaDoor

/- The curve's functions, mirrored: whatever their callees answer. -/
namespace Go.Proofs.YtkhooaaidmoogaaDoor
open Go Go.Sx
set_option maxRecDepth 100000
abbrev LI := List Int
abbrev pK : AK := .agg [(.u64, 4), (.u64, 4)]
abbrev tK : AK := .agg [(.u64, 4), (.u64, 4), (.u64, 4)]
abbrev fK : AK := .agg [(.u64, 4), (.u64, 4), (.u64, 4), (.u64, 4)]
abbrev g2 (M : LI → LI → LI) : List SV → T SV := ct l2 preU2 [i4] (fun | [.l a, .l b] => [.l (M a b)] | _ => [])
abbrev g1 (M : LI → LI) : List SV → T SV := ct l1 preU1 [i4] (fun | [.l a] => [.l (M a)] | _ => [])
abbrev gB (M : LI → LI → Bool) : List SV → T SV := ct l2 preU2 [.bool] (fun | [.l a, .l b] => [.b (M a b)] | _ => [])
abbrev g0 (d : LI) : List SV → T SV := ct [] (fun _ => True) [i4] (fun _ => [.l d])
abbrev P2 := LI × LI
abbrev P3 := LI × LI × LI
abbrev P4 := LI × LI × LI × LI
abbrev l2v (p : P2) : List LI := [p.1, p.2]
abbrev l4v (p : P4) : List LI := [p.1, p.2.1, p.2.2.1, p.2.2.2]
abbrev g0p (d : P2) : List SV → T SV := ct [] (fun _ => True) [pK] (fun _ => [.a (l2v d)])
abbrev gSm (M : Int → LI) : List SV → T SV := ct [u6] (fun _ => True) [i4] (fun | [.n a] => [.l (M a)] | _ => [])
abbrev gMade (M : LI → LI → LI → LI → P4) : List SV → T SV := ct [i4, i4, i4, i4] (fun | [.l e, .l f, .l g, .l h] => U64 e ∧ U64 f ∧ U64 g ∧ U64 h | _ => False) [fK] (fun | [.l e, .l f, .l g, .l h] => [.a (l4v (M e f g h))] | _ => [])
def U2 (p : P2) : Prop := U64 p.1 ∧ U64 p.2
def U3 (p : P3) : Prop := U64 p.1 ∧ U64 p.2.1 ∧ U64 p.2.2
def U4 (p : P4) : Prop := U64 p.1 ∧ U64 p.2.1 ∧ U64 p.2.2.1 ∧ U64 p.2.2.2
abbrev prP1 : List AV → Prop := fun | [.a [x, y]] => U2 (x, y) | _ => False
abbrev prP2 : List AV → Prop := fun | [.a [x, y], .a [z, w]] => U2 (x, y) ∧ U2 (z, w) | _ => False
abbrev prT1 : List AV → Prop := fun | [.a [x, y, z]] => U3 (x, y, z) | _ => False
abbrev gPB (M : P2 → Bool) : List SV → T SV := ct [pK] prP1 [.bool] (fun | [.a [x, y]] => [.b (M (x, y))] | _ => [])
abbrev gPPB (M : P2 → P2 → Bool) : List SV → T SV := ct [pK, pK] prP2 [.bool] (fun | [.a [x, y], .a [z, w]] => [.b (M (x, y) (z, w))] | _ => [])
abbrev gPP (M : P2 → P2) : List SV → T SV := ct [pK] prP1 [pK] (fun | [.a [x, y]] => [.a (l2v (M (x, y)))] | _ => [])
abbrev gPF (M : P2 → P4) : List SV → T SV := ct [pK] prP1 [fK] (fun | [.a [x, y]] => [.a (l4v (M (x, y)))] | _ => [])
abbrev gTF (M : P3 → P4) : List SV → T SV := ct [tK] prT1 [fK] (fun | [.a [x, y, z]] => [.a (l4v (M (x, y, z)))] | _ => [])
abbrev gTP (M : P3 → P2) : List SV → T SV := ct [tK] prT1 [pK] (fun | [.a [x, y, z]] => [.a (l2v (M (x, y, z)))] | _ => [])
abbrev gPPP (M : P2 → P2 → P2) : List SV → T SV := ct [pK, pK] prP2 [pK] (fun | [.a [x, y], .a [z, w]] => [.a (l2v (M (x, y) (z, w)))] | _ => [])
abbrev gPl (M : P4 → P4 → LI → P4) : List SV → T SV := ct [fK, fK, i4] (fun | [.a [x, y, z, t], .a [u, v, w, q], .l d] => U4 (x, y, z, t) ∧ U4 (u, v, w, q) ∧ U64 d | _ => False) [fK] (fun | [.a [x, y, z, t], .a [u, v, w, q], .l d] => [.a (l4v (M (x, y, z, t) (u, v, w, q) d))] | _ => [])
abbrev gKP (M : LI → P2 → P2) : List SV → T SV := ct [i4, pK] (fun | [.l k, .a [x, y]] => U64 k ∧ U2 (x, y) | _ => False) [pK] (fun | [.l k, .a [x, y]] => [.a (l2v (M k (x, y)))] | _ => [])

def u2 {α : Type} (M : LI → LI → LI) (a b : LI) (k : LI → T α) : T α := .need (U64 a ∧ U64 b) (k (M a b))
def u1 {α : Type} (N : LI → LI) (a : LI) (k : LI → T α) : T α := .need (U64 a) (k (N a))
def uBo {α : Type} (E : LI → LI → Bool) (a b : LI) (k : Bool → T α) : T α := .need (U64 a ∧ U64 b) (k (E a b))
def u0 {α : Type} (d : LI) (k : LI → T α) : T α := .need True (k d)
def u0p {α : Type} (d : P2) (k : P2 → T α) : T α := .need True (k d)
def uS {α : Type} (s : Int → LI) (n : Int) (k : LI → T α) : T α := .need True (k (s n))
def uPB {α : Type} (M : P2 → Bool) (p : P2) (k : Bool → T α) : T α := .need (U2 (p.1, p.2)) (k (M (p.1, p.2)))
def uPPB {α : Type} (M : P2 → P2 → Bool) (p q : P2) (k : Bool → T α) : T α := .need (U2 (p.1, p.2) ∧ U2 (q.1, q.2)) (k (M (p.1, p.2) (q.1, q.2)))
def uPP {α : Type} (M : P2 → P2) (p : P2) (k : P2 → T α) : T α := .need (U2 (p.1, p.2)) (k (M (p.1, p.2)))
def uPF {α : Type} (M : P2 → P4) (p : P2) (k : P4 → T α) : T α := .need (U2 (p.1, p.2)) (k (M (p.1, p.2)))
def uTF {α : Type} (M : P3 → P4) (p : P4) (k : P4 → T α) : T α := .need (U3 (p.1, p.2.1, p.2.2.1)) (k (M (p.1, p.2.1, p.2.2.1)))
def uTP {α : Type} (M : P3 → P2) (p : P4) (k : P2 → T α) : T α := .need (U3 (p.1, p.2.1, p.2.2.1)) (k (M (p.1, p.2.1, p.2.2.1)))
def uPPP {α : Type} (M : P2 → P2 → P2) (p q : P2) (k : P2 → T α) : T α := .need (U2 (p.1, p.2) ∧ U2 (q.1, q.2)) (k (M (p.1, p.2) (q.1, q.2)))
def uPl {α : Type} (M : P4 → P4 → LI → P4) (l m : P4) (d : LI) (k : P4 → T α) : T α := .need (U4 (l.1, l.2.1, l.2.2.1, l.2.2.2) ∧ U4 (m.1, m.2.1, m.2.2.1, m.2.2.2) ∧ U64 d) (k (M (l.1, l.2.1, l.2.2.1, l.2.2.2) (m.1, m.2.1, m.2.2.1, m.2.2.2) d))
def uM {α : Type} (M : LI → LI → LI → LI → P4) (e f g h : LI) (k : P4 → T α) : T α := .need (U64 e ∧ U64 f ∧ U64 g ∧ U64 h) (k (M e f g h))
def uKP {α : Type} (M : LI → P2 → P2) (a : LI) (p : P2) (k : P2 → T α) : T α := .need (U64 a ∧ U2 (p.1, p.2)) (k (M a (p.1, p.2)))
abbrev rV (k : AK) (l : List LI) : T SV := .ret (can1 k (.a l))
abbrev rL (l : LI) : T SV := .ret (.ints .u64 4 l)
abbrev rB (b : Bool) : T SV := .ret (.bool b)

variable (M A S : LI → LI → LI) (s : Int → LI) (E : LI → LI → Bool) (N I : LI → LI) (W : LI → LI → LI → LI → P4)
theorem rnMade (e f g h : LI) : runC [(30, g2 M)] Tryd.f64 (can [i4, i4, i4, i4] [.l e, .l f, .l g, .l h]) =
  u2 M e f fun x => u2 M g h fun y => u2 M f g fun z => u2 M e h fun t => rV fK [x, y, z, t] := by kernel_rfl
theorem rnPoint (a b c : LI) : runC [(30, g2 M), (54, g1 I)] Tryd.f41 (can [tK] [.a [a, b, c]]) =
  u1 I c fun n => u2 M a n fun x => u2 M b n fun y => rV pK [x, y] := by kernel_rfl
theorem rnCheck (d x y : LI) : runC [(30, g2 M), (31, g2 A), (34, g2 S), (32, gSm s), (23, gB E), (33, g0 d)] Tryd.f10 (can [pK] [.a [x, y]]) =
  u2 M x x fun xx => u2 M y y fun yy => uS s 1 fun one => u0 d fun f => u2 M xx yy fun m => u2 M f m fun dm => u2 A one dm fun r => u2 S yy xx fun l => uBo E l r fun b => rB b := by kernel_rfl
theorem rnTwice (a b c : LI) : runC [(30, g2 M), (31, g2 A), (34, g2 S), (45, g1 N), (64, gMade W)] Tryd.f48 (can [tK] [.a [a, b, c]]) =
  u2 M a a fun xx => u2 M b b fun yy => u2 M c c fun zz => u2 A a b fun both => u2 A xx yy fun sum => u2 S yy xx fun less => u2 M both both fun bb => u2 S bb sum fun e => u2 A zz zz fun z2 => u2 S less z2 fun f => u1 N sum fun h => uM W e f less h fun r => rV fK (l4v r) := by kernel_rfl
theorem rnPlus (x y z t u v w q d : LI) : runC [(30, g2 M), (31, g2 A), (34, g2 S), (64, gMade W)] Tryd.f40 (can [fK, fK, i4] [.a [x, y, z, t], .a [u, v, w, q], .l d]) =
  u2 S y x fun a => u2 S v u fun b => u2 M a b fun l => u2 A y x fun a => u2 A v u fun b => u2 M a b fun m => u2 M t q fun tt => u2 M d tt fun t1 => u2 A t1 t1 fun t2 => u2 M z w fun z1 => u2 A z1 z1 fun z2 =>
  u2 S m l fun e => u2 S z2 t2 fun f => u2 A z2 t2 fun g => u2 A m l fun h => uM W e f g h fun r => rV fK (l4v r) := by kernel_rfl
theorem rnTaken (C : P2 → Bool) (z : P2) (x y : LI) : runC [(10, gPB C), (22, g0p z), (31, g2 A), (32, gSm s)] Tryd.f44 (can [pK] [.a [x, y]]) =
  uPB C (x, y) fun c => .ite (!c) (u0p z fun r => rV pK (l2v r)) (uS s 0 fun o => u2 A x o fun x => uS s 0 fun o => u2 A y o fun y => rV pK [x, y]) := by kernel_rfl
theorem rnFactor : runC [(30, g2 M), (32, gSm s), (45, g1 N), (54, g1 I)] Tryd.f33 [] =
  uS s 121665 fun a => u1 N a fun a => uS s 121666 fun b => u1 I b fun b => u2 M a b fun r => rL r := by kernel_rfl
theorem rnZero : runC [(32, gSm s)] Tryd.f22 [] = uS s 0 fun a => uS s 1 fun b => rV pK [a, b] := by kernel_rfl
variable (T' : P2 → P2) (F : P2 → P4) (X : P4 → P4 → LI → P4) (Q : P3 → P2) (Y : P3 → P4)
theorem rnOf (x y : LI) : runC [(44, gPP T'), (30, g2 M), (32, gSm s)] Tryd.f39 (can [pK] [.a [x, y]]) =
  uPP T' (x, y) fun p => uS s 1 fun o => u2 M p.1 p.2 fun m => rV fK [p.1, p.2, o, m] := by kernel_rfl
theorem rnNeg (x y : LI) : runC [(44, gPP T'), (45, g1 N)] Tryd.f14 (can [pK] [.a [x, y]]) =
  uPP T' (x, y) fun p => u1 N p.1 fun n => rV pK [n, p.2] := by kernel_rfl
theorem rnAdd (d x y z w : LI) : runC [(39, gPF F), (33, g0 d), (40, gPl X), (41, gTP Q)] Tryd.f12 (can [pK, pK] [.a [x, y], .a [z, w]]) =
  uPF F (x, y) fun a => uPF F (z, w) fun b => u0 d fun d => uPl X a b d fun r => uTP Q r fun p => rV pK (l2v p) := by kernel_rfl
theorem rnClear (x y : LI) : runC [(39, gPF F), (48, gTF Y), (41, gTP Q)] Tryd.f20 (can [pK] [.a [x, y]]) =
  uPF F (x, y) fun a => uTF Y a fun a => uTF Y a fun a => uTF Y a fun a => uTP Q a fun p => rV pK (l2v p) := by kernel_rfl
theorem rnSame (x y z w : LI) : runC [(44, gPP T')] Tryd.f16 (can [pK, pK] [.a [x, y], .a [z, w]]) =
  uPP T' (x, y) fun p => uPP T' (z, w) fun q => rB (p.1 == q.1 && (p.2 == q.2 && true)) := by kernel_rfl
theorem rnBase (d : LI) (R : LI → LI → LI × Bool) : runC [(30, g2 M), (32, gSm s), (54, g1 I), (34, g2 S), (31, g2 A), (33, g0 d), (55, ct l2 preU2 [i4, .bool] (fun | [.l a, .l b] => [.l (R a b).1, .b (R a b).2] | _ => []))] Tryd.f25 [] =
  uS s 4 fun a => uS s 5 fun b => u1 I b fun b => u2 M a b fun y => u2 M y y fun yy => uS s 1 fun o => u2 S yy o fun u => u0 d fun d => u2 M d yy fun v => u2 A v o fun v => .need (U64 u ∧ U64 v) (rV pK [(R u v).1, y]) := by kernel_rfl
end Go.Proofs.YtkhooaaidmoogaaDoor

/- Reference 06, mirrored: whatever its callees answer. -/
namespace Go.Proofs.YtkhooaaidmoogaaDoor
open Go Go.Sx
set_option maxRecDepth 100000
abbrev l3v (p : P3) : List LI := [p.1, p.2.1, p.2.2]
abbrev prT2 : List AV → Prop := fun | [.a [x, y, z], .a [u, v, w]] => U3 (x, y, z) ∧ U3 (u, v, w) | _ => False
abbrev gTTT (M : P3 → P3 → P3) : List SV → T SV := ct [tK, tK] prT2 [tK] (fun | [.a [x, y, z], .a [u, v, w]] => [.a (l3v (M (x, y, z) (u, v, w)))] | _ => [])
abbrev oneL : LI := [1, 0, 0, 0]
variable (M A S : LI → LI → LI) (L N I : LI → LI) (D : LI) (C : P2 → Bool) (Z : P2) (R : P2 → P2)
theorem rrCheck (x y : LI) : runC [(35, g2 M), (36, g2 A), (38, g2 S), (37, g0 D)] Tryd.f11 (can [pK] [.a [x, y]]) =
  u2 M x x fun xx => u2 M y y fun yy => u0 D fun d => u2 M xx yy fun m => u2 M d m fun dm => u2 A oneL dm fun r => u2 S yy xx fun l => rB (l == r) := by kernel_rfl
theorem rrLeast (x y : LI) : runC [(11, gPB C), (29, g0p Z), (63, g1 L)] Tryd.f42 (can [pK] [.a [x, y]]) =
  uPB C (x, y) fun c => .ite (!c) (u0p Z fun r => rV pK (l2v r)) (u1 L x fun x => u1 L y fun y => rV pK [x, y]) := by kernel_rfl
theorem rrAdd (x y z w : LI) : runC [(42, gPP R), (35, g2 M), (36, g2 A), (38, g2 S), (37, g0 D), (43, g1 I)] Tryd.f13 (can [pK, pK] [.a [x, y], .a [z, w]]) =
  uPP R (x, y) fun p => uPP R (z, w) fun q => u2 M p.1 q.1 fun xx => u2 M p.2 q.2 fun yy => u0 D fun d => u2 M xx yy fun m => u2 M d m fun n => u2 M p.1 q.2 fun a => u2 M p.2 q.1 fun b => u2 A a b fun x => u2 A yy xx fun y =>
  u2 A oneL n fun a => u1 I a fun above => u2 S oneL n fun b => u1 I b fun below => u2 M x above fun u => u2 M y below fun v => rV pK [u, v] := by kernel_rfl
theorem rrNeg (x y : LI) : runC [(42, gPP R), (46, g1 N)] Tryd.f15 (can [pK] [.a [x, y]]) =
  uPP R (x, y) fun p => u1 N p.1 fun n => rV pK [n, p.2] := by kernel_rfl
theorem rrSum (x y z u v w : LI) : runC [(35, g2 M), (36, g2 A), (38, g2 S), (37, g0 D)] Tryd.f50 (can [tK, tK] [.a [x, y, z], .a [u, v, w]]) =
  u2 M z w fun zw => u2 M zw zw fun zz => u2 M x u fun xx => u2 M y v fun yy => u0 D fun d => u2 M xx yy fun m => u2 M d m fun n => u2 S zz n fun less => u2 A zz n fun more => u2 M x v fun a => u2 M y u fun b => u2 A a b fun s => u2 A yy xx fun t =>
  u2 M s less fun a => u2 M zw a fun r1 => u2 M t more fun b => u2 M zw b fun r2 => u2 M less more fun r3 => rV tK [r1, r2, r3] := by kernel_rfl
variable (B : P2 → P2 → P2)
theorem rrClear (x y : LI) : runC [(13, gPPP B)] Tryd.f21 (can [pK] [.a [x, y]]) =
  uPPP B (x, y) (x, y) fun p => uPPP B p p fun p => uPPP B p p fun p => rV pK (l2v p) := by kernel_rfl
theorem rrSame (x y z w : LI) : runC [(42, gPP R)] Tryd.f17 (can [pK, pK] [.a [x, y], .a [z, w]]) =
  uPP R (x, y) fun p => uPP R (z, w) fun q => rB (p.1 == q.1 && (p.2 == q.2 && true)) := by kernel_rfl
theorem rrDee : runC [] Tryd.f37 [] = rL [0x75eb4dca135978a3, 0x700a4d4141d8ab, 0x8cc740797779e898, 0x52036cee2b6ffe73] := by kernel_rfl
theorem rrZero : runC [] Tryd.f29 [] = rV pK [[0, 0, 0, 0], [1, 0, 0, 0]] := by kernel_rfl
theorem rrBase : runC [] Tryd.f28 [] = rV pK [[0xc9562d608f25d51a, 0x692cc7609525a7b2, 0xc0a4e231fdd6dc5c, 0x216936d3cd6e53fe], [0x6666666666666658, 0x6666666666666666, 0x6666666666666666, 0x6666666666666666]] := by kernel_rfl
end Go.Proofs.YtkhooaaidmoogaaDoor

/- Contracts of the curve's functions, and of reference 06's, in classes. -/
namespace Go.Proofs.YtkhooaaidmoogaaDoor
open Go Go.Sx
open Go.Nt (cls digs Pt E4 E3 Pc Dc Gc On padd pneg pzero smul sm plus4 pt4 cvc)
set_option maxRecDepth 100000

abbrev mulF (a b : LI) : LI := digs (cls a * cls b)
abbrev addF (a b : LI) : LI := digs (cls a + cls b)
abbrev subF (a b : LI) : LI := digs (cls a - cls b)
abbrev negF (a : LI) : LI := digs (-cls a)
abbrev invF (a : LI) : LI := digs (Nt.inv (cls a))
abbrev leastF (a : LI) : LI := digs (cls a)
abbrev sameF (a b : LI) : Bool := decide (cls a = cls b)
abbrev smF (n : Int) : LI := [n, 0, 0, 0]
theorem dMul : FnOk Tryd.prog GC 30 (g2 mulF) := cMul
theorem dAdd : FnOk Tryd.prog GC 31 (g2 addF) := cAdd
theorem dSub : FnOk Tryd.prog GC 34 (g2 subF) := cSub
theorem dNeg : FnOk Tryd.prog GC 45 (g1 negF) := cNeg
theorem dInv : FnOk Tryd.prog GC 54 (g1 invF) := cInv
theorem dSame : FnOk Tryd.prog GC 23 (gB sameF) := cSame
theorem dSmall : FnOk Tryd.prog GC 32 (gSm smF) := cSmall
theorem eMul : FnOk Tryd.prog GC 35 (g2 mulF) := rMul
theorem eAdd : FnOk Tryd.prog GC 36 (g2 addF) := rAdd
theorem eSub : FnOk Tryd.prog GC 38 (g2 subF) := rSub
theorem eNeg : FnOk Tryd.prog GC 46 (g1 negF) := rNeg
theorem eInv : FnOk Tryd.prog GC 43 (g1 invF) := rInv
theorem eLeast : FnOk Tryd.prog GC 63 (g1 leastF) := rLeast

def rawP (p : P2) : Pt Pc := ⟨cls p.1, cls p.2⟩
def tkP (p : P2) : Pt Pc := if On Dc (rawP p) then rawP p else pzero
def ptV (p : Pt Pc) : P2 := (digs p.x, digs p.y)
def e4v (l : P4) : E4 Pc := ⟨cls l.1, cls l.2.1, cls l.2.2.1, cls l.2.2.2⟩
def e43 (l : P3) : E4 Pc := ⟨cls l.1, cls l.2.1, cls l.2.2, 0⟩
def e3v (l : P3) : E3 Pc := ⟨cls l.1, cls l.2.1, cls l.2.2⟩
def p4v (a : E4 Pc) : P4 := (digs a.x, digs a.y, digs a.z, digs a.t)
def p3v (a : E3 Pc) : P3 := (digs a.x, digs a.y, digs a.z)
theorem tkP_on (p : P2) : On Dc (tkP p) := by
  unfold tkP; split
  · assumption
  · exact Nt.on_zero Dc
theorem raw_ptV (p : Pt Pc) : rawP (ptV p) = p := by simp only [rawP, ptV, Nt.cls_digs]
theorem tk_ptV {p : Pt Pc} (h : On Dc p) : tkP (ptV p) = p := by unfold tkP; rw [raw_ptV, if_pos h]
theorem ptV_inj {p q : Pt Pc} (h : ptV p = ptV q) : p = q := by have := congrArg rawP h; rwa [raw_ptV, raw_ptV] at this
theorem U2_ptV (p : Pt Pc) : U2 (ptV p) := ⟨Nt.digs_u64 _, Nt.digs_u64 _⟩
theorem U4_p4v (a : E4 Pc) : U4 (p4v a) := ⟨Nt.digs_u64 _, Nt.digs_u64 _, Nt.digs_u64 _, Nt.digs_u64 _⟩
theorem U3_p3v (a : E3 Pc) : U3 (p3v a) := ⟨Nt.digs_u64 _, Nt.digs_u64 _, Nt.digs_u64 _⟩
theorem e4_p4 (a : E4 Pc) : e4v (p4v a) = a := by simp only [e4v, p4v, Nt.cls_digs]
theorem e3_p3 (a : E3 Pc) : e3v (p3v a) = a := by simp only [e3v, p3v, Nt.cls_digs]
theorem ptV_beq (p q : Pt Pc) : ((ptV p).1 == (ptV q).1 && ((ptV p).2 == (ptV q).2 && true)) = decide (p = q) := by
  rw [Bool.and_true]
  by_cases h : p = q
  · rw [h, beq_self_eq_true, beq_self_eq_true, decide_eq_true rfl]; rfl
  · rw [decide_eq_false h, Bool.and_eq_false_iff]
    by_cases h1 : (ptV p).1 = (ptV q).1
    · right; exact beq_eq_false_iff_ne.2 fun h2 => h (ptV_inj (Prod.ext h1 h2))
    · left; exact beq_eq_false_iff_ne.2 h1

theorem fit_p {xs : List AV} (h : fit [pK] xs) : ∃ x y, xs = [.a [x, y]] := by
  match xs, h with
  | [a], h =>
    cases a <;> first | exact h.1.elim | skip
    rename_i ls
    match ls, h.1 with
    | [x, y], _ => exact ⟨x, y, rfl⟩
    | [], h => exact h.elim
    | [_], h => exact h.2.elim
    | _ :: _ :: _ :: _, h => exact h.2.2.elim
  | [], h => exact h.elim
  | _ :: _ :: _, h => exact h.2.elim
theorem fit_pp {xs : List AV} (h : fit [pK, pK] xs) : ∃ x y z w, xs = [.a [x, y], .a [z, w]] := by
  match xs, h with
  | a :: l, h =>
    obtain ⟨z, w, rfl⟩ := fit_p (xs := l) h.2
    obtain ⟨x, y, e⟩ := fit_p (xs := [a]) ⟨h.1, trivial⟩
    cases e
    exact ⟨x, y, z, w, rfl⟩
  | [], h => exact h.elim
theorem fit_t {xs : List AV} (h : fit [tK] xs) : ∃ x y z, xs = [.a [x, y, z]] := by
  match xs, h with
  | [a], h =>
    cases a <;> first | exact h.1.elim | skip
    rename_i ls
    match ls, h.1 with
    | [x, y, z], _ => exact ⟨x, y, z, rfl⟩
    | [], h => exact h.elim
    | [_], h => exact h.2.elim
    | [_, _], h => exact h.2.2.elim
    | _ :: _ :: _ :: _ :: _, h => exact h.2.2.2.elim
  | [], h => exact h.elim
  | _ :: _ :: _, h => exact h.2.elim
theorem fit_f {xs : List AV} (h : fit [fK] xs) : ∃ x y z t, xs = [.a [x, y, z, t]] := by
  match xs, h with
  | [a], h =>
    cases a <;> first | exact h.1.elim | skip
    rename_i ls
    match ls, h.1 with
    | [x, y, z, t], _ => exact ⟨x, y, z, t, rfl⟩
    | [], h => exact h.elim
    | [_], h => exact h.2.elim
    | [_, _], h => exact h.2.2.elim
    | [_, _, _], h => exact h.2.2.2.elim
    | _ :: _ :: _ :: _ :: _ :: _, h => exact h.2.2.2.2.elim
  | [], h => exact h.elim
  | _ :: _ :: _, h => exact h.2.elim
theorem fit_tt {xs : List AV} (h : fit [tK, tK] xs) : ∃ x y z u v w, xs = [.a [x, y, z], .a [u, v, w]] := by
  match xs, h with
  | a :: l, h =>
    obtain ⟨u, v, w, rfl⟩ := fit_t (xs := l) h.2
    obtain ⟨x, y, z, e⟩ := fit_t (xs := [a]) ⟨h.1, trivial⟩
    cases e
    exact ⟨x, y, z, u, v, w, rfl⟩
  | [], h => exact h.elim
theorem fit_ffl {xs : List AV} (h : fit [fK, fK, i4] xs) : ∃ x y z t u v w q d, xs = [.a [x, y, z, t], .a [u, v, w, q], .l d] := by
  match xs, h with
  | [a, b, c], h =>
    obtain ⟨x, y, z, t, e⟩ := fit_f (xs := [a]) ⟨h.1, trivial⟩
    obtain ⟨u, v, w, q, e'⟩ := fit_f (xs := [b]) ⟨h.2.1, trivial⟩
    obtain ⟨d, e'', -⟩ := fit_l1 (show fit [i4] [c] from h.2.2)
    cases e; cases e'; cases e''
    exact ⟨x, y, z, t, u, v, w, q, d, rfl⟩
  | [], h => exact h.elim
  | [_], h => exact h.2.elim
  | [_, _], h => exact h.2.2.elim
  | _ :: _ :: _ :: _ :: _, h => exact h.2.2.2.elim
theorem fit_lp {xs : List AV} (h : fit [i4, pK] xs) : ∃ k x y, xs = [.l k, .a [x, y]] ∧ k.length = 4 := by
  match xs, h with
  | a :: l, h =>
    obtain ⟨x, y, rfl⟩ := fit_p (xs := l) h.2
    obtain ⟨k, e, hk⟩ := fit_l1 (show fit [i4] [a] from ⟨h.1, trivial⟩)
    cases e
    exact ⟨k, x, y, rfl, hk⟩
  | [], h => exact h.elim

theorem dl (x : Fin Pc) : (digs x).length = 4 := Nt.digs_length x
theorem fitP (p : Pt Pc) : fit [pK] [.a (l2v (ptV p))] := ⟨⟨dl _, dl _, trivial⟩, trivial⟩
theorem fitF (a : E4 Pc) : fit [fK] [.a (l4v (p4v a))] := ⟨⟨dl _, dl _, dl _, dl _, trivial⟩, trivial⟩
theorem fitT (a : E3 Pc) : fit [tK] [.a (l3v (p3v a))] := ⟨⟨dl _, dl _, dl _, trivial⟩, trivial⟩
theorem cls_sm0 : cls (smF 0) = 0 := by unfold Nt.cls; rw [show val (smF 0) = 0 by decide, Nt.toF_zero]
theorem cls_sm1 : cls (smF 1) = 1 := by unfold Nt.cls; rw [show val (smF 1) = 1 by decide, Nt.toF_one]
theorem usm {n : Int} (h : 0 ≤ n ∧ n < 18446744073709551616) : U64 (smF n) := u64_4.2 ⟨h, by decide, by decide, by decide⟩

theorem cMade : FnOk Tryd.prog GC 64 (gMade fun e f g h => p4v (Nt.made (cls e) (cls f) (cls g) (cls h))) := by
  refine fnOk_gd (cxC_ok (fns := [(30, g2 mulF)]) ⟨dMul, trivial⟩) gmC_is Tryd.func64 (c := body Tryd.f64) (by kernel_rfl) (enters_of Tryd.func64 (by kernel_rfl) (by kernel_rfl)) (fuel := 100) ?_
  intro xs hfit hp
  obtain ⟨e, f, g, h, rfl, -⟩ := fit_l4 hfit
  obtain ⟨u1, u2', u3, u4⟩ := hp
  refine ⟨no, noBlC, fitF _, Gd.of_eq (rnMade mulF e f g h) ⟨?_⟩⟩
  simp only [u2, T.good]
  exact ⟨⟨u1, u2'⟩, ⟨u3, u4⟩, ⟨u2', u3⟩, ⟨u1, u4⟩, fun ρ => rfl⟩

theorem cPoint : FnOk Tryd.prog GC 41 (gTP fun l => ptV (pt4 (e43 l))) := by
  refine fnOk_gd (cxC_ok (fns := [(30, g2 mulF), (54, g1 invF)]) ⟨dMul, dInv, trivial⟩) gmC_is Tryd.func41 (c := body Tryd.f41) (by kernel_rfl) (enters_of Tryd.func41 (by kernel_rfl) (by kernel_rfl)) (fuel := 100) ?_
  intro xs hfit hp
  obtain ⟨a, b, c, rfl⟩ := fit_t hfit
  obtain ⟨h1, h2, h3⟩ := hp
  refine ⟨no, noBlC, fitP _, Gd.of_eq (rnPoint mulF invF a b c) ⟨?_⟩⟩
  simp only [u1, u2, T.good]
  refine ⟨h3, ⟨h1, Nt.digs_u64 _⟩, ⟨h2, Nt.digs_u64 _⟩, fun ρ => ?_⟩
  simp only [mulF, invF, Nt.cls_digs]
  rfl

theorem dc_inv (d c : Fin Pc) (hn : c ≠ 0) : d * c * Nt.inv c = d := by
  have hi := Nt.mul_inv Nt.Pc_prime _ hn
  generalize Nt.inv c = i at *
  rw [show d * c * i = d * (c * i) by grind, hi]; grind
theorem cFactor : FnOk Tryd.prog GC 33 (g0 (digs Dc)) := by
  refine fnOk_gd (cxC_ok (fns := [(30, g2 mulF), (32, gSm smF), (45, g1 negF), (54, g1 invF)]) ⟨dMul, dSmall, dNeg, dInv, trivial⟩) gmC_is Tryd.func33 (c := body Tryd.f33) (by kernel_rfl) (enters_of Tryd.func33 (by kernel_rfl) (by kernel_rfl)) (fuel := 100) ?_
  intro xs hfit _
  obtain rfl := fit_0 hfit
  refine ⟨no, noBlC, ⟨dl _, trivial⟩, Gd.of_eq (rnFactor mulF smF negF invF) ⟨?_⟩⟩
  simp only [uS, u1, u2, T.good]
  refine ⟨trivial, usm (by decide), trivial, usm (by decide), ⟨Nt.digs_u64 _, Nt.digs_u64 _⟩, fun ρ => ?_⟩
  have e : mulF (negF (smF 121665)) (invF (smF 121666)) = digs Dc := by
    simp only [mulF, negF, invF, Nt.cls_digs]
    refine congrArg digs ?_
    have h1 : cls (smF 121665) = 121665 := by unfold Nt.cls; rw [show val (smF 121665) = 121665 by decide]; decide +kernel
    have h2 : cls (smF 121666) = 121666 := by unfold Nt.cls; rw [show val (smF 121666) = 121666 by decide]; decide +kernel
    rw [h1, h2, ← Nt.Dc_eq]
    exact dc_inv Dc _ (by decide +kernel)
  rw [e]; rfl

def checkF (p : P2) : Bool := decide (On Dc (rawP p))
theorem cCheck : FnOk Tryd.prog GC 10 (gPB checkF) := by
  refine fnOk_gd (cxC_ok (fns := [(30, g2 mulF), (31, g2 addF), (34, g2 subF), (32, gSm smF), (23, gB sameF), (33, g0 (digs Dc))]) ⟨dMul, dAdd, dSub, dSmall, dSame, cFactor, trivial⟩) gmC_is Tryd.func10 (c := body Tryd.f10) (by kernel_rfl) (enters_of Tryd.func10 (by kernel_rfl) (by kernel_rfl)) (fuel := 100) ?_
  intro xs hfit hp
  obtain ⟨x, y, rfl⟩ := fit_p hfit
  obtain ⟨h1, h2⟩ := hp
  refine ⟨no, noBlC, ⟨trivial, trivial⟩, Gd.of_eq (rnCheck mulF addF subF smF sameF (digs Dc) x y) ⟨?_⟩⟩
  simp only [uS, u0, u2, uBo, T.good]
  refine ⟨⟨h1, h1⟩, ⟨h2, h2⟩, trivial, trivial, ⟨Nt.digs_u64 _, Nt.digs_u64 _⟩, ⟨Nt.digs_u64 _, Nt.digs_u64 _⟩, ⟨usm (by decide), Nt.digs_u64 _⟩, ⟨Nt.digs_u64 _, Nt.digs_u64 _⟩, ⟨Nt.digs_u64 _, Nt.digs_u64 _⟩, fun ρ => ?_⟩
  have e : sameF (subF (mulF y y) (mulF x x)) (addF (smF 1) (mulF (digs Dc) (mulF (mulF x x) (mulF y y)))) = checkF (x, y) := by
    simp only [sameF, subF, mulF, addF, Nt.cls_digs, cls_sm1, checkF, rawP]
    refine decide_eq_decide.2 ?_
    unfold On
    simp only
    generalize cls x = u
    generalize cls y = v
    generalize Dc = d
    rw [show 1 + d * u * u * v * v = 1 + d * (u * u * (v * v)) by grind]
  rw [e]; rfl

theorem cZero : FnOk Tryd.prog GC 22 (g0p (ptV pzero)) := by
  refine fnOk_gd (cxC_ok (fns := [(32, gSm smF)]) ⟨dSmall, trivial⟩) gmC_is Tryd.func22 (c := body Tryd.f22) (by kernel_rfl) (enters_of Tryd.func22 (by kernel_rfl) (by kernel_rfl)) (fuel := 100) ?_
  intro xs hfit _
  obtain rfl := fit_0 hfit
  refine ⟨no, noBlC, fitP _, Gd.of_eq (rnZero smF) ⟨?_⟩⟩
  simp only [uS, T.good]
  refine ⟨trivial, trivial, fun ρ => ?_⟩
  have e : ptV (pzero : Pt Pc) = (smF 0, smF 1) := by decide +kernel
  rw [e]; rfl

theorem tk_fst (x y : LI) (h : On Dc (rawP (x, y))) : tkP (x, y) = rawP (x, y) := by unfold tkP; rw [if_pos h]
theorem cTaken : FnOk Tryd.prog GC 44 (gPP fun p => ptV (tkP p)) := by
  refine fnOk_gd (cxC_ok (fns := [(10, gPB checkF), (22, g0p (ptV pzero)), (31, g2 addF), (32, gSm smF)]) ⟨cCheck, cZero, dAdd, dSmall, trivial⟩) gmC_is Tryd.func44 (c := body Tryd.f44) (by kernel_rfl) (enters_of Tryd.func44 (by kernel_rfl) (by kernel_rfl)) (fuel := 100) ?_
  intro xs hfit hp
  obtain ⟨x, y, rfl⟩ := fit_p hfit
  obtain ⟨h1, h2⟩ := hp
  refine ⟨no, noBlC, fitP _, Gd.of_eq (rnTaken addF smF checkF (ptV pzero) x y) ⟨?_⟩⟩
  simp only [uPB, u0p, uS, u2, T.good]
  refine ⟨⟨h1, h2⟩, fun hc => ⟨trivial, fun ρ => ?_⟩, fun hc => ⟨trivial, ⟨h1, usm (by decide)⟩, trivial, ⟨h2, usm (by decide)⟩, fun ρ => ?_⟩⟩
  · have hn : ¬ On Dc (rawP (x, y)) := by simpa [checkF] using hc
    have e : tkP (x, y) = pzero := by unfold tkP; rw [if_neg hn]
    rw [e]; rfl
  · have hy : On Dc (rawP (x, y)) := by simpa [checkF] using hc
    have e1 : addF x (smF 0) = digs (cls x) := by simp only [addF, cls_sm0]; congr 1; grind
    have e2 : addF y (smF 0) = digs (cls y) := by simp only [addF, cls_sm0]; congr 1; grind
    rw [e1, e2, tk_fst x y hy]; rfl

theorem cOf : FnOk Tryd.prog GC 39 (gPF fun p => p4v (Nt.fst4 (tkP p))) := by
  refine fnOk_gd (cxC_ok (fns := [(44, gPP fun p => ptV (tkP p)), (30, g2 mulF), (32, gSm smF)]) ⟨cTaken, dMul, dSmall, trivial⟩) gmC_is Tryd.func39 (c := body Tryd.f39) (by kernel_rfl) (enters_of Tryd.func39 (by kernel_rfl) (by kernel_rfl)) (fuel := 100) ?_
  intro xs hfit hp
  obtain ⟨x, y, rfl⟩ := fit_p hfit
  refine ⟨no, noBlC, fitF _, Gd.of_eq (rnOf mulF smF (fun p => ptV (tkP p)) x y) ⟨?_⟩⟩
  simp only [uPP, uS, u2, T.good]
  refine ⟨hp, trivial, U2_ptV _, fun ρ => ?_⟩
  have e : smF 1 = digs 1 := by decide +kernel
  rw [e]
  simp only [mulF, ptV, Nt.cls_digs]
  rfl

theorem cTwice : FnOk Tryd.prog GC 48 (gTF fun l => p4v (Nt.twice (e43 l))) := by
  refine fnOk_gd (cxC_ok (fns := [(30, g2 mulF), (31, g2 addF), (34, g2 subF), (45, g1 negF), (64, gMade fun e f g h => p4v (Nt.made (cls e) (cls f) (cls g) (cls h)))]) ⟨dMul, dAdd, dSub, dNeg, cMade, trivial⟩) gmC_is Tryd.func48 (c := body Tryd.f48) (by kernel_rfl) (enters_of Tryd.func48 (by kernel_rfl) (by kernel_rfl)) (fuel := 100) ?_
  intro xs hfit hp
  obtain ⟨a, b, c, rfl⟩ := fit_t hfit
  obtain ⟨h1, h2, h3⟩ := hp
  refine ⟨no, noBlC, fitF _, Gd.of_eq (rnTwice mulF addF subF negF _ a b c) ⟨?_⟩⟩
  simp only [u1, u2, uM, T.good]
  have d := Nt.digs_u64
  refine ⟨⟨h1, h1⟩, ⟨h2, h2⟩, ⟨h3, h3⟩, ⟨h1, h2⟩, ⟨d _, d _⟩, ⟨d _, d _⟩, ⟨d _, d _⟩, ⟨d _, d _⟩, ⟨d _, d _⟩, ⟨d _, d _⟩, d _, ⟨d _, d _, d _, d _⟩, fun ρ => ?_⟩
  simp only [mulF, addF, subF, negF, Nt.cls_digs]
  rfl

theorem cPlus : FnOk Tryd.prog GC 40 (gPl fun l m d => p4v (plus4 (cls d) (e4v l) (e4v m))) := by
  refine fnOk_gd (cxC_ok (fns := [(30, g2 mulF), (31, g2 addF), (34, g2 subF), (64, gMade fun e f g h => p4v (Nt.made (cls e) (cls f) (cls g) (cls h)))]) ⟨dMul, dAdd, dSub, cMade, trivial⟩) gmC_is Tryd.func40 (c := body Tryd.f40) (by kernel_rfl) (enters_of Tryd.func40 (by kernel_rfl) (by kernel_rfl)) (fuel := 100) ?_
  intro xs hfit hp
  obtain ⟨x, y, z, t, u, v, w, q, d, rfl⟩ := fit_ffl hfit
  obtain ⟨⟨h1, h2, h3, h4⟩, ⟨k1, k2, k3, k4⟩, hd⟩ := hp
  refine ⟨no, noBlC, fitF _, Gd.of_eq (rnPlus mulF addF subF _ x y z t u v w q d) ⟨?_⟩⟩
  simp only [u2, uM, T.good]
  have g := Nt.digs_u64
  refine ⟨⟨h2, h1⟩, ⟨k2, k1⟩, ⟨g _, g _⟩, ⟨h2, h1⟩, ⟨k2, k1⟩, ⟨g _, g _⟩, ⟨h4, k4⟩, ⟨hd, g _⟩, ⟨g _, g _⟩, ⟨h3, k3⟩, ⟨g _, g _⟩, ⟨g _, g _⟩, ⟨g _, g _⟩, ⟨g _, g _⟩, ⟨g _, g _⟩, ⟨g _, g _, g _, g _⟩, fun ρ => ?_⟩
  simp only [mulF, addF, subF, Nt.cls_digs]
  rfl

theorem e4_rep {p : Pt Pc} {a : E4 Pc} (h : Nt.Rep Dc a p) : Nt.Rep Dc (e4v (p4v a)) p := by rw [e4_p4]; exact h
theorem pt_e43 {p : Pt Pc} {a : E4 Pc} (h : Nt.Rep Dc a p) : pt4 (e43 ((p4v a).1, (p4v a).2.1, (p4v a).2.2.1)) = p := by
  have e : pt4 (e43 ((p4v a).1, (p4v a).2.1, (p4v a).2.2.1)) = pt4 a := by simp only [pt4, e43, p4v, Nt.cls_digs]
  rw [e]; exact Nt.rep_pt cvc h
theorem rep_fst (p : P2) : Nt.Rep Dc (Nt.fst4 (tkP p)) (tkP p) := Nt.rep_of cvc (tkP_on p)
theorem cAdd' : FnOk Tryd.prog GC 12 (gPPP fun p q => ptV (padd Dc (tkP p) (tkP q))) := by
  refine fnOk_gd (cxC_ok (fns := [(39, gPF fun p => p4v (Nt.fst4 (tkP p))), (33, g0 (digs Dc)), (40, gPl fun l m d => p4v (plus4 (cls d) (e4v l) (e4v m))), (41, gTP fun l => ptV (pt4 (e43 l)))]) ⟨cOf, cFactor, cPlus, cPoint, trivial⟩) gmC_is Tryd.func12 (c := body Tryd.f12) (by kernel_rfl) (enters_of Tryd.func12 (by kernel_rfl) (by kernel_rfl)) (fuel := 100) ?_
  intro xs hfit hp
  obtain ⟨x, y, z, w, rfl⟩ := fit_pp hfit
  obtain ⟨h1, h2⟩ := hp
  refine ⟨no, noBlC, fitP _, Gd.of_eq (rnAdd _ _ _ (digs Dc) x y z w) ⟨?_⟩⟩
  simp only [uPF, u0, uPl, uTP, T.good]
  have g := Nt.digs_u64
  refine ⟨h1, h2, trivial, ⟨U4_p4v _, U4_p4v _, g _⟩, ⟨g _, g _, g _⟩, fun ρ => ?_⟩
  have hr := Nt.rep_plus cvc (e4_rep (rep_fst (x, y))) (e4_rep (rep_fst (z, w)))
  have e := pt_e43 hr
  rw [Nt.cls_digs]
  exact congrArg (fun p => (can1 pK (.a (l2v (ptV p)))).den ρ) e

theorem cClear : FnOk Tryd.prog GC 20 (gPP fun p => ptV (smul Dc 8 (tkP p))) := by
  refine fnOk_gd (cxC_ok (fns := [(39, gPF fun p => p4v (Nt.fst4 (tkP p))), (48, gTF fun l => p4v (Nt.twice (e43 l))), (41, gTP fun l => ptV (pt4 (e43 l)))]) ⟨cOf, cTwice, cPoint, trivial⟩) gmC_is Tryd.func20 (c := body Tryd.f20) (by kernel_rfl) (enters_of Tryd.func20 (by kernel_rfl) (by kernel_rfl)) (fuel := 100) ?_
  intro xs hfit hp
  obtain ⟨x, y, rfl⟩ := fit_p hfit
  refine ⟨no, noBlC, fitP _, Gd.of_eq (rnClear _ _ _ x y) ⟨?_⟩⟩
  simp only [uPF, uTF, uTP, T.good]
  have g := Nt.digs_u64
  refine ⟨hp, ⟨g _, g _, g _⟩, ⟨g _, g _, g _⟩, ⟨g _, g _, g _⟩, ⟨g _, g _, g _⟩, fun ρ => ?_⟩
  have tw : ∀ {a : E4 Pc} {p : Pt Pc}, Nt.Rep Dc a p → Nt.Rep Dc (Nt.twice (e43 ((p4v a).1, (p4v a).2.1, (p4v a).2.2.1))) (padd Dc p p) := fun {a p} h => by
    have e : Nt.twice (e43 ((p4v a).1, (p4v a).2.1, (p4v a).2.2.1)) = Nt.twice a := by simp only [Nt.twice, e43, p4v, Nt.cls_digs]
    rw [e]; exact Nt.rep_twice cvc h
  have e := pt_e43 (tw (tw (tw (rep_fst (x, y)))))
  rw [← Nt.smul_8 cvc (tkP_on (x, y))] at e
  exact congrArg (fun p => (can1 pK (.a (l2v (ptV p)))).den ρ) e

theorem cNeg' : FnOk Tryd.prog GC 14 (gPP fun p => ptV (pneg (tkP p))) := by
  refine fnOk_gd (cxC_ok (fns := [(44, gPP fun p => ptV (tkP p)), (45, g1 negF)]) ⟨cTaken, dNeg, trivial⟩) gmC_is Tryd.func14 (c := body Tryd.f14) (by kernel_rfl) (enters_of Tryd.func14 (by kernel_rfl) (by kernel_rfl)) (fuel := 100) ?_
  intro xs hfit hp
  obtain ⟨x, y, rfl⟩ := fit_p hfit
  refine ⟨no, noBlC, fitP _, Gd.of_eq (rnNeg negF (fun p => ptV (tkP p)) x y) ⟨?_⟩⟩
  simp only [uPP, u1, T.good]
  refine ⟨hp, Nt.digs_u64 _, fun ρ => ?_⟩
  simp only [negF, ptV, Nt.cls_digs]
  rfl

def same2 (p q : P2) : Bool := decide (tkP p = tkP q)
theorem cSame' : FnOk Tryd.prog GC 16 (gPPB same2) := by
  refine fnOk_gd (cxC_ok (fns := [(44, gPP fun p => ptV (tkP p))]) ⟨cTaken, trivial⟩) gmC_is Tryd.func16 (c := body Tryd.f16) (by kernel_rfl) (enters_of Tryd.func16 (by kernel_rfl) (by kernel_rfl)) (fuel := 100) ?_
  intro xs hfit hp
  obtain ⟨x, y, z, w, rfl⟩ := fit_pp hfit
  refine ⟨no, noBlC, ⟨trivial, trivial⟩, Gd.of_eq (rnSame (fun p => ptV (tkP p)) x y z w) ⟨?_⟩⟩
  simp only [uPP, T.good, ptV_beq]
  exact ⟨hp.1, hp.2, fun ρ => rfl⟩
end Go.Proofs.YtkhooaaidmoogaaDoor

/- FieldBack: its contract. -/
namespace Go.Proofs.YtkhooaaidmoogaaDoor
open Go Go.Sx
set_option maxRecDepth 100000

def back6T (z : Bool) (r : Nat) (a v : List Int) : T SV :=
  sameT a z4 fun zero => invT a fun ia => mul2T a ia fun one => mul2T a a fun aa => mul2T v aa fun u => root2T u v fun x ok => sameT v z4 fun v0 =>
  let K3 : T SV := oddT x fun o => isT (!o) true (bytes1T a fun bs => of1T bs fun n => add2T a z4 fun a0 => isT (n == a0) true (match z with
    | true => isT zero true (.ret .tt)
    | false => isT zero false (oddT a fun oa => neg1T a fun na => oddT na fun on => .ret (.bool (oa != on)))))
  let K2 (rt : Option Bool) : T SV := isT ok true (match rt with
    | none => K3
    | some b => isT b true K3)
  let K (rt : Option Bool) : T SV := match z with
    | true => isT zero true (isT (one == z4) true (K2 rt))
    | false => isT zero false (isT (!zero) true (isT (one == o4) true (K2 rt)))
  match r with
  | 0 => isT v0 true (K none)
  | 1 => isT v0 false (add2T a z4 fun a0 => isT (x == a0) true (K none))
  | _ => isT v0 false (add2T a z4 fun a0 => isT (x == a0) false (neg1T a fun na => K (some (x == na))))

theorem toB_u8 : ∀ (k : Nat) (n : Int), U8 (toB k n)
  | 0, _, x, hx => by simp [toB] at hx
  | k + 1, n, x, hx => by
    rcases List.mem_cons.1 hx with rfl | hx
    · omega
    · exact toB_u8 k _ x hx
theorem bv_toB : ∀ (k : Nat) (n : Int), 0 ≤ n → n < 256 ^ k → bv (toB k n) = n
  | 0, n, h0, h1 => by simp at h1; simp [toB, bv]; omega
  | k + 1, n, h0, h1 => by
    simp only [toB, bv]
    rw [Int.pow_succ] at h1
    rw [bv_toB k (n / 256) (by omega) (Int.ediv_lt_of_lt_mul (by decide) h1)]
    omega
theorem bv_toB32 (n : Int) : bv (toB 32 (n % P25)) = n % P25 := bv_toB 32 _ (modP n).1 (Int.lt_trans (modP n).2 (by decide +kernel))

section
variable (A V : Int)
abbrev uB : Int := V * (A * A % P25) % P25
theorem fp_uB : fp (uB A V) = fp V * (fp A * fp A) := by simp only [uB, fp_mod, fp_mul]
theorem ok_uB : (rootP (uB A V) V).2 = true := by
  obtain ⟨-, h, -⟩ := rootP_spec (uB A V) V
  rcases h with ⟨h, -⟩ | ⟨-, -, h⟩
  · exact h
  · exact absurd (fp_uB A V).symm (h (fp A))
theorem root_uB (hv : fp V ≠ 0) : fp (rootP (uB A V) V).1 = fp A ∨ fp (rootP (uB A V) V).1 = -fp A := by
  obtain ⟨-, h, -⟩ := rootP_spec (uB A V) V
  rcases h with ⟨-, h⟩ | ⟨h, -⟩
  · rw [fp_uB] at h
    refine Nt.sq_eq Pn_prime _ _ ?_
    have hi := Nt.mul_inv Pn_prime _ hv
    grind
  · rw [ok_uB] at h; cases h
end

theorem even_not_odd {x : Int} (h0 : 0 ≤ x) (h1 : x < P25) (h : x % 2 = 0) : (!decide (x % P25 % 2 = 1)) = true := by
  rw [Int.emod_eq_of_lt h0 h1, decide_eq_false (by omega)]; rfl

theorem neg_parity {x : Int} (h : fp x ≠ 0) : (decide (x % P25 % 2 = 1) != decide ((-x) % P25 % P25 % 2 = 1)) = true := by
  have h1 : x % P25 ≠ 0 := fun e => h (fp_zero_iff.2 e)
  have h2 := modP x
  have h3 : (-x) % P25 % P25 = P25 - x % P25 := by
    rw [Int.emod_emod_of_dvd _ (Int.dvd_refl P25), ← neg_emod (r := x % P25) (by omega) h2.2]
    apply fp_eq.1
    rw [fp_neg, fp_neg, fp_mod]
  rw [h3]
  have hodd := Pn_odd
  generalize x % P25 = y at *
  generalize P25 = p at *
  by_cases ho : y % 2 = 1
  · rw [decide_eq_true ho, decide_eq_false (by omega)]; rfl
  · rw [decide_eq_false ho, decide_eq_true (by omega)]; rfl

theorem back6_good (a v : List Int) (u1 : U64 a) (u2 : U64 v) (r : Nat)
    (hr : (r = 0 ∧ fp (val v) = 0) ∨ (r = 1 ∧ fp (val v) ≠ 0 ∧ fp (rootP (uB (val a) (val v)) (val v)).1 = fp (val a)) ∨ (r = 2 ∧ fp (val v) ≠ 0 ∧ fp (rootP (uB (val a) (val v)) (val v)).1 ≠ fp (val a))) :
    Gd (back6T (decide (fp (val a) = 0)) r a v) fun u => ∀ ρ, u.den ρ = (outV [.bool] [.b true]).den ρ := by
  refine ⟨?_⟩
  have hok := ok_uB (val a) (val v)
  have hrt := root_uB (val a) (val v)
  have hspec := (rootP_spec (uB (val a) (val v)) (val v)).1
  have hodd := even_not_odd hspec.1 hspec.2.1 hspec.2.2
  have hone : fp (val a) ≠ 0 → fp (val a) * Nt.inv (fp (val a)) = 1 := fun h => Nt.mul_inv Pn_prime _ h
  simp only [back6T, sameT, invT, mul2T, root2T, T.good]
  refine ⟨⟨u1, uz4⟩, u1, ⟨u1, ut4 _⟩, ⟨u1, u1⟩, ⟨u2, ut4 _⟩, ⟨ut4 _, u2⟩, ⟨u2, uz4⟩, ?_⟩
  simp only [val_toLP]
  have e : val v * (val a * val a % P25) % P25 = uB (val a) (val v) := rfl
  by_cases hz : fp (val a) = 0
  · have h1 : (toL 4 (val a * (val a ^ 57896044618658097711785492504343953926634992332820282019728792003956564819947 % P25) % P25) == z4) = true := by
      rw [beq_z4]; simp only [fp_mul, hz]; exact decide_eq_true (by grind)
    have hz1 : decide (val a % P25 = val z4 % P25) = true := by rw [val_z4, sameP, fp_zero]; exact decide_eq_true hz
    have K3 : (oddT (toL 4 (rootP (val v * (val a * val a % P25) % P25) (val v)).1) fun o => isT (!o) true (bytes1T a fun bs => of1T bs fun n => add2T a z4 fun a0 => isT (n == a0) true (isT (decide (val a % P25 = val z4 % P25)) true (.ret .tt)))).good fun u => ∀ ρ, u.den ρ = (outV [.bool] [.b true]).den ρ := by
      simp only [oddT, isT, bytes1T, of1T, add2T, T.good, val_root, val_z4, bv_toB32]
      rw [e]
      refine ⟨ut4 _, hodd, u1, toB_u8 _ _, ⟨u1, uz4⟩, ?_, hz1, den_tt⟩
      rw [toL4_beq, fp_mod, Int.add_zero]; exact decide_eq_true rfl
    rw [decide_eq_true hz]
    rcases hr with ⟨rfl, hv⟩ | ⟨rfl, hv, hx⟩ | ⟨rfl, hv, hx⟩
    · simp only [isT, T.good]
      exact ⟨by rw [val_z4, sameP, fp_zero]; exact decide_eq_true hv, hz1, h1, hok, K3⟩
    · simp only [isT, add2T, T.good]
      refine ⟨by rw [val_z4, sameP, fp_zero]; exact decide_eq_false hv, ⟨u1, uz4⟩, ?_, hz1, h1, hok, K3⟩
      rw [root_beq, val_z4, Int.add_zero]; exact decide_eq_true hx
    · simp only [isT, add2T, neg1T, T.good]
      refine ⟨by rw [val_z4, sameP, fp_zero]; exact decide_eq_false hv, ⟨u1, uz4⟩, ?_, u1, hz1, h1, hok, ?_, K3⟩
      · rw [root_beq, val_z4, Int.add_zero]; exact decide_eq_false hx
      · rw [root_beq, fp_neg]; exact decide_eq_true ((hrt hv).resolve_left hx)
  · have h1 : (toL 4 (val a * (val a ^ 57896044618658097711785492504343953926634992332820282019728792003956564819947 % P25) % P25) == o4) = true := by
      rw [beq_o4]; simp only [fp_mul, fp_mod, fp_inv']; exact decide_eq_true (hone hz)
    have hz1 : decide (val a % P25 = val z4 % P25) = false := by rw [val_z4, sameP, fp_zero]; exact decide_eq_false hz
    have hz2 : (!decide (val a % P25 = val z4 % P25)) = true := by rw [hz1]; rfl
    have K3 : (oddT (toL 4 (rootP (val v * (val a * val a % P25) % P25) (val v)).1) fun o => isT (!o) true (bytes1T a fun bs => of1T bs fun n => add2T a z4 fun a0 => isT (n == a0) true (isT (decide (val a % P25 = val z4 % P25)) false
        (oddT a fun oa => neg1T a fun na => oddT na fun on => .ret (.bool (oa != on)))))).good fun u => ∀ ρ, u.den ρ = (outV [.bool] [.b true]).den ρ := by
      simp only [oddT, isT, bytes1T, of1T, add2T, neg1T, T.good, val_root, val_toLP, bv_toB32]
      rw [e]
      refine ⟨ut4 _, hodd, u1, toB_u8 _ _, ⟨u1, uz4⟩, ?_, hz1, u1, u1, ut4 _, den_true (neg_parity hz)⟩
      rw [val_z4, toL4_beq, fp_mod, Int.add_zero]; exact decide_eq_true rfl
    rw [decide_eq_false hz]
    rcases hr with ⟨rfl, hv⟩ | ⟨rfl, hv, hx⟩ | ⟨rfl, hv, hx⟩
    · simp only [isT, T.good]
      exact ⟨by rw [val_z4, sameP, fp_zero]; exact decide_eq_true hv, hz1, hz2, h1, hok, K3⟩
    · simp only [isT, add2T, T.good]
      refine ⟨by rw [val_z4, sameP, fp_zero]; exact decide_eq_false hv, ⟨u1, uz4⟩, ?_, hz1, hz2, h1, hok, K3⟩
      rw [root_beq, val_z4, Int.add_zero]; exact decide_eq_true hx
    · simp only [isT, add2T, neg1T, T.good]
      refine ⟨by rw [val_z4, sameP, fp_zero]; exact decide_eq_false hv, ⟨u1, uz4⟩, ?_, u1, hz1, hz2, h1, hok, ?_, K3⟩
      · rw [root_beq, val_z4, Int.add_zero]; exact decide_eq_false hx
      · rw [root_beq, fp_neg]; exact decide_eq_true ((hrt hv).resolve_left hx)

end Go.Proofs.YtkhooaaidmoogaaDoor

/- A point so many times: the loop of curve.Mul, mirrored. -/
namespace Go.Proofs.YtkhooaaidmoogaaDoor
open Go Go.Sx
open Go.Nt (cls digs Pt E4 E3 Pc Dc Gc On padd pneg pzero smul sm plus4 pt4 cvc)
set_option maxRecDepth 100000

abbrev l4s (a : P4) : List SV := [.ints .u64 4 a.1, .ints .u64 4 a.2.1, .ints .u64 4 a.2.2.1, .ints .u64 4 a.2.2.2]
abbrev gBy (By : LI → LI) : List SV → T SV := ct l1 preU1 [.ints .u8 32] (fun | [.l a] => [.l (By a)] | _ => [])
def ksM' : Fg := ⟨List.replicate 9 .keep ++ List.replicate 9 .junk ++ [.soft] ++ List.replicate 24 .junk, 7, 19⟩
def jsM' : Fg := ⟨List.replicate 9 .keep ++ List.replicate 34 .junk, 7, 19⟩
def memM' (k x y many d : LI) (one out : P4) : Mem := [(0, .st true [.ints .u64 4 k]), (1, .st true [.ints .u64 4 x, .ints .u64 4 y]), (2, .st true [.ints .u64 4 [0, 0, 0, 0], .ints .u64 4 [0, 0, 0, 0]]), (5, .st true [.ints .u8 32 many]), (12, .st true [.ints .u64 4 d]), (13, .st true (l4s one)), (14, .st true (l4s out))]
def hdM (k x y : LI) : List SV := [.ints .u64 4 k, .agg [.ints .u64 4 x, .ints .u64 4 y], ptr0 0, ptr0 1, ptr0 2, ptr0 5, ptr0 12, ptr0 13, ptr0 14]
def invM' (k x y many d : LI) (one : P4) (i : Int) (out : P4) : St := ⟨hdM k x y ++ junks 9 9 ++ [.int .i64 i] ++ junks 19 24, memM' k x y many d one out, 19⟩
def outM' (k x y many d : LI) (one out : P4) : St := ⟨hdM k x y ++ junks 9 34, memM' k x y many d one out, 19⟩
noncomputable def bodyM' : Code := unloop (Code.blk (body Tryd.f18) 0)
variable (X : P4 → P4 → LI → P4) (Y : P3 → P4) (F : P2 → P4) (Q : P3 → P2) (By : LI → LI)
noncomputable abbrev fnsM (d : LI) (Z : P2) : List (Nat × (List SV → T SV)) := [(47, gBy By), (33, g0 d), (39, gPF F), (22, g0p Z), (48, gTF Y), (40, gPl X), (41, gTP Q)]
abbrev pr4 (a : P4) : P4 := (a.1, a.2.1, a.2.2.1, a.2.2.2)

abbrev bitM (many : LI) (i : Int) : Bool := bitsI .and .u8 (shrI .u8 (many.getD (IntKind.i64.wrap ((IntKind.i64.wrap (255 - i)).tdiv 8)).toNat 0) ((IntKind.i64.wrap (255 - i)).tmod 8)) 1 == 1
theorem roundM' (k x y many d : LI) (Z : P2) (one out : P4) (i : Int) : endOf ksM' jsM' (exec (cxF (fnsM X Y F Q By d Z)) (drawS (cxF (fnsM X Y F Q By d Z))) no 100 bodyM' (invM' k x y many d one i out)) =
  .ite (decide (i < 256)) (uTF Y out fun a => .need (0 ≤ IntKind.i64.wrap ((IntKind.i64.wrap (255 - i)).tdiv 8) ∧ IntKind.i64.wrap ((IntKind.i64.wrap (255 - i)).tdiv 8) < 32)
    (.need ((IntKind.i64.wrap ((IntKind.i64.wrap (255 - i)).tdiv 8)).toNat + 1 ≤ 32) (.need (0 ≤ (IntKind.i64.wrap (255 - i)).tmod 8)
      (.ite (bitM many i) (uPl X a one d fun b => .ret (.normal, invM' k x y many d one (IntKind.i64.wrap (i + 1)) (pr4 b)))
        (.ret (.normal, invM' k x y many d one (IntKind.i64.wrap (i + 1)) (pr4 a)))))))
  (.ret (.exit 0, outM' k x y many d one out)) := by kernel_rfl
noncomputable def blM' (k x y many d : LI) (one st out : P4) : Blocks := fun i => match Nat.beq i 0 with
  | true => some (loopF ksM' (invM' k x y many d one 0 st) (outM' k x y many d one out))
  | false => none
theorem runMul (k x y d : LI) (Z : P2) (out : P4) : runX (cxF (fnsM X Y F Q By d Z)) (blM' k x y (By k) d (pr4 (F (x, y))) (pr4 (F (Z.1, Z.2))) out) 100 Tryd.f18 (body Tryd.f18) (can [i4, pK] [.l k, .a [x, y]]) [] =
  .need (U64 k) (.need True (.need (U2 (x, y)) (.need True (.need (U2 (Z.1, Z.2)) (.need (invM' k x y (By k) d (pr4 (F (x, y))) 0 (pr4 (F (Z.1, Z.2))) = invM' k x y (By k) d (pr4 (F (x, y))) 0 (pr4 (F (Z.1, Z.2))))
    (uTP Q out fun p => rV pK (l2v p))))))) := by kernel_rfl

/-- What the rounds come to. -/
def mulE (b : E4 Pc) (N : Int) : Nat → E4 Pc
  | 0 => Nt.fst4 pzero
  | i + 1 => if N / 2 ^ (255 - i) % 2 = 1 then plus4 Dc (Nt.twice (mulE b N i)) b else Nt.twice (mulE b N i)
theorem mulE_rep {b : E4 Pc} {p : Pt Pc} (hb : Nt.Rep Dc b p) (N : Int) (h0 : 0 ≤ N) (h1 : N < 2 ^ 256) : ∀ i, i ≤ 256 → Nt.Rep Dc (mulE b N i) (smul Dc (N / 2 ^ (256 - i)).toNat p)
  | 0, _ => by
    rw [show N / 2 ^ (256 - 0) = 0 from Int.ediv_eq_zero_of_lt h0 h1]
    exact Nt.rep_of cvc (Nt.on_zero Dc)
  | i + 1, hi => by
    have ih := mulE_rep hb N h0 h1 i (by omega)
    obtain ⟨s1, s2⟩ := Nt.rep4_step hb ih
    unfold mulE
    have hb2 : N / 2 ^ (255 - i) % 2 = 0 ∨ N / 2 ^ (255 - i) % 2 = 1 := by omega
    rcases hb2 with h | h
    · rw [if_neg (by omega), pow_step N N i h0 (by omega) 0 h]
      rw [show 2 * (N / 2 ^ (256 - i)).toNat + Int.toNat 0 = (N / 2 ^ (256 - i)).toNat + (N / 2 ^ (256 - i)).toNat by omega]
      exact s1
    · rw [if_pos h, pow_step N N i h0 (by omega) 1 h]
      rw [show 2 * (N / 2 ^ (256 - i)).toNat + Int.toNat 1 = (N / 2 ^ (256 - i)).toNat + (N / 2 ^ (256 - i)).toNat + 1 by omega]
      exact s2

/-- A bit of a number in bytes. -/
theorem byte_bit : ∀ (l : List Int) (q r : Nat), U8 l → r < 8 → bv l / 2 ^ (8 * q + r) % 2 = (l.getD q 0) / 2 ^ r % 2
  | [], q, r, _, _ => by simp [bv]
  | x :: l, 0, r, h, hr => by
    simp only [bv, Nat.mul_zero, Nat.zero_add, List.getD_cons_zero]
    have e : (256 : Int) * bv l = (2 ^ r : Int) * (2 * (2 ^ (7 - r) * bv l)) := by
      have : (2 : Int) ^ r * 2 ^ (7 - r) = 2 ^ 7 := by rw [← Int.pow_add]; congr 1; omega
      rw [← Int.mul_assoc, ← Int.mul_assoc, Int.mul_assoc (2 ^ r) 2, Int.mul_comm 2, ← Int.mul_assoc, this]
      rfl
    rw [e, Int.add_mul_ediv_left _ _ (Int.ne_of_gt (Int.pow_pos (by decide))), Int.add_mul_emod_self_left]
  | x :: l, q + 1, r, h, hr => by
    have hx := h x (by simp)
    have hl : U8 l := fun y hy => h y (by simp [hy])
    rw [List.getD_cons_succ, ← byte_bit l q r hl hr]
    have e : (2 : Int) ^ (8 * (q + 1) + r) = 256 * 2 ^ (8 * q + r) := by
      rw [show 8 * (q + 1) + r = 8 + (8 * q + r) by omega, Int.pow_add]; rfl
    rw [e, ← Int.ediv_ediv_of_nonneg (by decide)]
    congr 2
    simp only [bv]
    omega
theorem U8.getD {l : List Int} (h : U8 l) (j : Nat) : 0 ≤ l.getD j 0 ∧ l.getD j 0 < 256 := by
  rw [List.getD_eq_getElem?_getD]
  cases e : l[j]? with
  | none => simp
  | some x => exact h x (List.mem_of_getElem? e)
theorem and1_u8 (x : Int) (h : 0 ≤ x ∧ x < 256) : bitsI .and .u8 x 1 = x % 2 := by
  have hall : ∀ y : Fin 256, bitsI .and .u8 (y.val : Int) 1 = (y.val : Int) % 2 := by decide +kernel
  have := hall ⟨x.toNat, by omega⟩
  simp only at this
  rwa [Int.toNat_of_nonneg h.1] at this
theorem bitM_eq (many : LI) (u : U8 many) (i : Nat) (hi : i < 256) : (0 ≤ IntKind.i64.wrap ((IntKind.i64.wrap (255 - (i : Int))).tdiv 8) ∧ IntKind.i64.wrap ((IntKind.i64.wrap (255 - (i : Int))).tdiv 8) < 32) ∧
    (IntKind.i64.wrap ((IntKind.i64.wrap (255 - (i : Int))).tdiv 8)).toNat + 1 ≤ 32 ∧ 0 ≤ (IntKind.i64.wrap (255 - (i : Int))).tmod 8 ∧ bitM many i = decide (bv many / 2 ^ (255 - i) % 2 = 1) := by
  rw [wrap_i64 (255 - (i : Int)) (by omega), wrap_i64 ((255 - (i : Int)).tdiv 8) (by rw [Int.tdiv_eq_ediv_of_nonneg (by omega)]; omega), Int.tdiv_eq_ediv_of_nonneg (by omega), Int.tmod_eq_emod_of_nonneg (by omega)]
  have hq : ((255 - (i : Int)) / 8).toNat = (255 - i) / 8 := by omega
  have hr : (255 - (i : Int)) % 8 = (((255 - i) % 8 : Nat) : Int) := by omega
  have hs : 8 * ((255 - i) / 8) + (255 - i) % 8 = 255 - i := by omega
  have hd := byte_bit many ((255 - i) / 8) ((255 - i) % 8) u (by omega)
  rw [hs] at hd
  have hg := U8.getD u ((255 - i) / 8)
  have hdiv : 0 ≤ many.getD ((255 - i) / 8) 0 / 2 ^ ((255 - i) % 8) ∧ many.getD ((255 - i) / 8) 0 / 2 ^ ((255 - i) % 8) < 256 :=
    ⟨Int.ediv_nonneg hg.1 (Int.le_of_lt (Int.pow_pos (by decide))), Int.lt_of_le_of_lt (Int.ediv_le_self _ hg.1) hg.2⟩
  refine ⟨⟨by omega, by omega⟩, by omega, by omega, ?_⟩
  unfold bitM
  rw [wrap_i64 (255 - (i : Int)) (by omega), wrap_i64 ((255 - (i : Int)).tdiv 8) (by rw [Int.tdiv_eq_ediv_of_nonneg (by omega)]; omega), Int.tdiv_eq_ediv_of_nonneg (by omega), Int.tmod_eq_emod_of_nonneg (by omega), hq, hr, shrI_u8 _ _ (by omega), and1_u8 _ hdiv, ← hd]
  by_cases h : bv many / 2 ^ (255 - i) % 2 = 1
  · rw [h, decide_eq_true rfl]; rfl
  · rw [decide_eq_false h]; exact beq_eq_false_iff_ne.2 h

noncomputable abbrev fnsMC : List (Nat × (List SV → T SV)) := fnsM (fun l m d => p4v (plus4 (cls d) (e4v l) (e4v m))) (fun l => p4v (Nt.twice (e43 l))) (fun p => p4v (Nt.fst4 (tkP p))) (fun l => ptV (pt4 (e43 l))) (fun a => toB 32 (val a % L25)) (digs Dc) (ptV pzero)
theorem fnsMC_ok : FnsOk Tryd.prog GC fnsMC := ⟨sBytes, cFactor, cOf, cZero, cTwice, cPlus, cPoint, trivial⟩
theorem Lc_cast : (Nt.Lc : Int) = L25 := by decide +kernel
theorem modL_lt (x : Int) : 0 ≤ x % L25 ∧ x % L25 < 2 ^ 256 := ⟨(modL x).1, Int.lt_trans (modL x).2 (by decide +kernel)⟩
theorem bv_bytesL (x : Int) : bv (toB 32 (x % L25)) = x % L25 := bv_toB 32 _ (modL x).1 (Int.lt_trans (modL x).2 (by decide +kernel))
theorem sm_is (k : Int) (p : Pt Pc) : smul Dc (k % L25 / 2 ^ (256 - 256)).toNat p = sm k p := by
  unfold sm
  rw [Lc_cast, show (256 : Nat) - 256 = 0 from rfl, Int.pow_zero, Int.ediv_one]

noncomputable def InvM' (k x y : LI) (i : Nat) : St := invM' k x y (toB 32 (val k % L25)) (digs Dc) (pr4 (p4v (Nt.fst4 (tkP (x, y))))) i (pr4 (p4v (mulE (Nt.fst4 (tkP (x, y))) (val k % L25) i)))
theorem roundM'_good (k x y : LI) (i : Nat) (hi : i ≤ 256) : (endOf ksM' jsM' (exec (cxF fnsMC) (drawS (cxF fnsMC)) no 100 bodyM' (InvM' k x y i))).good fun r => match r.1 with
      | .normal => ∃ i', i' ≤ 256 ∧ r.2 = InvM' k x y i' ∧ 256 - i' < 256 - i
      | .exit j => j = 0 ∧ r.2 = outM' k x y (toB 32 (val k % L25)) (digs Dc) (pr4 (p4v (Nt.fst4 (tkP (x, y))))) (pr4 (p4v (mulE (Nt.fst4 (tkP (x, y))) (val k % L25) 256)))
      | .ret => False := by
  unfold InvM'
  rw [roundM']
  simp only [T.good, decide_eq_true_eq, decide_eq_false_iff_not, uTF, uPl]
  have g := Nt.digs_u64
  have tw : ∀ a : E4 Pc, Nt.twice (e43 ((p4v a).1, (p4v a).2.1, (p4v a).2.2.1)) = Nt.twice a := fun a => by simp only [Nt.twice, e43, p4v, Nt.cls_digs]
  refine ⟨fun hlt => ?_, fun hlt => ?_⟩
  · have hi' : i < 256 := by omega
    obtain ⟨b1, b2, b3, b4⟩ := bitM_eq (toB 32 (val k % L25)) (toB_u8 _ _) i hi'
    rw [bv_bytesL] at b4
    refine ⟨⟨g _, g _, g _⟩, b1, b2, b3, ?_⟩
    rw [b4, wrap_i64 ((i : Int) + 1) (by omega)]
    simp only [decide_eq_true_eq, decide_eq_false_iff_not]
    refine ⟨fun hb => ⟨⟨U4_p4v _, U4_p4v _, g _⟩, i + 1, by omega, ?_, by omega⟩, fun hb => ⟨i + 1, by omega, ?_, by omega⟩⟩
    · have e : mulE (Nt.fst4 (tkP (x, y))) (val k % L25) (i + 1) = plus4 Dc (Nt.twice (mulE (Nt.fst4 (tkP (x, y))) (val k % L25) i)) (Nt.fst4 (tkP (x, y))) := by
        conv => lhs; unfold mulE
        rw [if_pos hb]
      rw [e, Nt.cls_digs]
      have e1 : e4v ((p4v (Nt.twice (e43 ((p4v (mulE (Nt.fst4 (tkP (x, y))) (val k % L25) i)).1, (p4v (mulE (Nt.fst4 (tkP (x, y))) (val k % L25) i)).2.1, (p4v (mulE (Nt.fst4 (tkP (x, y))) (val k % L25) i)).2.2.1)))).1, (p4v (Nt.twice (e43 ((p4v (mulE (Nt.fst4 (tkP (x, y))) (val k % L25) i)).1, (p4v (mulE (Nt.fst4 (tkP (x, y))) (val k % L25) i)).2.1, (p4v (mulE (Nt.fst4 (tkP (x, y))) (val k % L25) i)).2.2.1)))).2.1, (p4v (Nt.twice (e43 ((p4v (mulE (Nt.fst4 (tkP (x, y))) (val k % L25) i)).1, (p4v (mulE (Nt.fst4 (tkP (x, y))) (val k % L25) i)).2.1, (p4v (mulE (Nt.fst4 (tkP (x, y))) (val k % L25) i)).2.2.1)))).2.2.1, (p4v (Nt.twice (e43 ((p4v (mulE (Nt.fst4 (tkP (x, y))) (val k % L25) i)).1, (p4v (mulE (Nt.fst4 (tkP (x, y))) (val k % L25) i)).2.1, (p4v (mulE (Nt.fst4 (tkP (x, y))) (val k % L25) i)).2.2.1)))).2.2.2) = Nt.twice (mulE (Nt.fst4 (tkP (x, y))) (val k % L25) i) := by
        rw [tw]; exact e4_p4 _
      have e2 : e4v ((pr4 (p4v (Nt.fst4 (tkP (x, y))))).1, (pr4 (p4v (Nt.fst4 (tkP (x, y))))).2.1, (pr4 (p4v (Nt.fst4 (tkP (x, y))))).2.2.1, (pr4 (p4v (Nt.fst4 (tkP (x, y))))).2.2.2) = Nt.fst4 (tkP (x, y)) := e4_p4 _
      rw [e1, e2]
      rfl
    · have e : mulE (Nt.fst4 (tkP (x, y))) (val k % L25) (i + 1) = Nt.twice (mulE (Nt.fst4 (tkP (x, y))) (val k % L25) i) := by
        conv => lhs; unfold mulE
        rw [if_neg hb]
      rw [e, tw]
      rfl
  · have : i = 256 := by omega
    subst this
    exact ⟨trivial, rfl⟩

theorem cMul' : FnOk Tryd.prog GC 18 (gKP fun k p => ptV (sm (val k) (tkP p))) := by
  have hcx := cxC_ok fnsMC_ok
  refine fnOk_gd hcx gmC_is Tryd.func18 (c := body Tryd.f18) (by kernel_rfl) (enters_of Tryd.func18 (by kernel_rfl) (by kernel_rfl)) (fuel := 100) ?_
  intro xs hfit hp
  obtain ⟨k, x, y, rfl, hk⟩ := fit_lp hfit
  obtain ⟨hu, hp⟩ := hp
  refine ⟨blM' k x y (toB 32 (val k % L25)) (digs Dc) (pr4 (p4v (Nt.fst4 (tkP (x, y))))) (pr4 (p4v (Nt.fst4 (tkP (ptV pzero))))) (pr4 (p4v (mulE (Nt.fst4 (tkP (x, y))) (val k % L25) 256))), ?_, fitP _, ?_⟩
  · intro Γ hG h0 hg hz
    refine blocksIn_of _ fun id f hf b hb => ?_
    have hid : id = 0 := by
      simp only [blM'] at hf
      split at hf
      · rename_i h; exact Nat.eq_of_beq_eq_true h
      · cases hf
    subst hid
    have hbl : blksL (body Tryd.f18) 0 = [.loop bodyM'] := by kernel_rfl
    rw [hbl] at hb
    have hb := List.mem_singleton.1 hb
    subst hb
    have hf : loopF ksM' (invM' k x y (toB 32 (val k % L25)) (digs Dc) (pr4 (p4v (Nt.fst4 (tkP (x, y))))) 0 (pr4 (p4v (Nt.fst4 (tkP (ptV pzero)))))) (outM' k x y (toB 32 (val k % L25)) (digs Dc) (pr4 (p4v (Nt.fst4 (tkP (x, y))))) (pr4 (p4v (mulE (Nt.fst4 (tkP (x, y))) (val k % L25) 256)))) = f := by
      simpa [blM'] using hf
    subst hf
    have e0 : invM' k x y (toB 32 (val k % L25)) (digs Dc) (pr4 (p4v (Nt.fst4 (tkP (x, y))))) 0 (pr4 (p4v (Nt.fst4 (tkP (ptV pzero))))) = InvM' k x y 0 := by
      unfold InvM'
      rw [tk_ptV (Nt.on_zero Dc)]
      rfl
    rw [e0]
    exact loop_rule (hG ▸ hcx) hg h0 (drawS_sound (hG ▸ hcx) hg h0) (bl := no) (blocksIn_none _) (InvM' k x y) (fun i => 256 - i) (fun i => i ≤ 256) _ 100 ksM' jsM' (by rw [hz]; exact Nat.zero_le _) (by rw [hz]; exact Nat.zero_le _)
      (roundM'_good k x y) 0 (Nat.zero_le _)
  · refine Gd.of_eq (runMul _ _ _ _ _ k x y _ _ _) ⟨?_⟩
    simp only [T.good, uTP]
    have g := Nt.digs_u64
    refine ⟨hu, trivial, hp, trivial, U2_ptV _, trivial, ⟨g _, g _, g _⟩, fun ρ => ?_⟩
    have hr := mulE_rep (rep_fst (x, y)) (val k % L25) (modL_lt _).1 (modL_lt _).2 256 (Nat.le_refl _)
    rw [sm_is] at hr
    exact congrArg (fun p => (can1 pK (.a (l2v (ptV p)))).den ρ) (pt_e43 hr)
end Go.Proofs.YtkhooaaidmoogaaDoor
