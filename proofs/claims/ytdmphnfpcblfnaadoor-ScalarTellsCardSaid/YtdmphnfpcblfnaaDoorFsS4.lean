import Derived.Test.YtdmphnfpcblfnaaDoorFsS3
import Derived.Test.YtdmphnfpcblfnaaDoorFs12
import Derived.Test.YtdmphnfpcblfnaaDoorNtC
/- Package scalar: Bytes, Check, Neg; awake; the laws without the document's answer. -/
namespace Go.Proofs.YtdmphnfpcblfnaaDoor
open Go Go.Sx
set_option maxRecDepth 100000

def belS (a : List Int) (k : List Int → T SV) : T SV := .need (U64 a) (k (toL 4 (val a % L25)))
theorem run46 (a : List Int) : runX (cxF [(67, belowSC)]) no 100 Tryd.f46 (body Tryd.f46) (can l1 [.l a]) gmS = belS a fun a => .ret (.ints .u8 32 [IntKind.u8.wrap (shrI .u64 (a.getD 0 0) 0), IntKind.u8.wrap (shrI .u64 (a.getD 0 0) 8), IntKind.u8.wrap (shrI .u64 (a.getD 0 0) 16), IntKind.u8.wrap (shrI .u64 (a.getD 0 0) 24), IntKind.u8.wrap (shrI .u64 (a.getD 0 0) 32), IntKind.u8.wrap (shrI .u64 (a.getD 0 0) 40), IntKind.u8.wrap (shrI .u64 (a.getD 0 0) 48), IntKind.u8.wrap (shrI .u64 (a.getD 0 0) 56), IntKind.u8.wrap (shrI .u64 (a.getD 1 0) 0), IntKind.u8.wrap (shrI .u64 (a.getD 1 0) 8), IntKind.u8.wrap (shrI .u64 (a.getD 1 0) 16), IntKind.u8.wrap (shrI .u64 (a.getD 1 0) 24), IntKind.u8.wrap (shrI .u64 (a.getD 1 0) 32), IntKind.u8.wrap (shrI .u64 (a.getD 1 0) 40), IntKind.u8.wrap (shrI .u64 (a.getD 1 0) 48), IntKind.u8.wrap (shrI .u64 (a.getD 1 0) 56), IntKind.u8.wrap (shrI .u64 (a.getD 2 0) 0), IntKind.u8.wrap (shrI .u64 (a.getD 2 0) 8), IntKind.u8.wrap (shrI .u64 (a.getD 2 0) 16), IntKind.u8.wrap (shrI .u64 (a.getD 2 0) 24), IntKind.u8.wrap (shrI .u64 (a.getD 2 0) 32), IntKind.u8.wrap (shrI .u64 (a.getD 2 0) 40), IntKind.u8.wrap (shrI .u64 (a.getD 2 0) 48), IntKind.u8.wrap (shrI .u64 (a.getD 2 0) 56), IntKind.u8.wrap (shrI .u64 (a.getD 3 0) 0), IntKind.u8.wrap (shrI .u64 (a.getD 3 0) 8), IntKind.u8.wrap (shrI .u64 (a.getD 3 0) 16), IntKind.u8.wrap (shrI .u64 (a.getD 3 0) 24), IntKind.u8.wrap (shrI .u64 (a.getD 3 0) 32), IntKind.u8.wrap (shrI .u64 (a.getD 3 0) 40), IntKind.u8.wrap (shrI .u64 (a.getD 3 0) 48), IntKind.u8.wrap (shrI .u64 (a.getD 3 0) 56)]) := by kernel_rfl
abbrev bytesSC : List SV → T SV := ct l1 (fun | [.l a] => U64 a | _ => False) [.ints .u8 32] (fun | [.l a] => [.l (toB 32 (val a % L25))] | _ => [])
theorem fn46 : FnOk Tryd.prog GS 46 bytesSC := by
  refine fnOk_ct (cxS_ok (fns := [(67, belowSC)]) ⟨fn67, trivial⟩) gS Tryd.func46 (c := body Tryd.f46) (by kernel_rfl) (enters_of Tryd.func46 (by kernel_rfl) (by kernel_rfl)) (bl := no) (fuel := 100) noBlS ?_
  intro xs hfit hp
  obtain ⟨a, rfl, ha⟩ := fit_l1 hfit
  have ua : U64 a := hp
  refine ⟨by simp [fit, fit1, toB_length], ?_⟩
  rw [run46]
  simp only [belS, T.good]
  refine ⟨ua, ?_⟩
  generalize val a % L25 = N
  have e : toB 32 N = toB 8 N ++ (toB 8 (N / 18446744073709551616) ++ (toB 8 (N / 18446744073709551616 / 18446744073709551616) ++ toB 8 (N / 18446744073709551616 / 18446744073709551616 / 18446744073709551616))) := by
    rw [show (32 : Nat) = 8 + (8 + (8 + 8)) from rfl, toB_add, toB_add, toB_add]
    rfl
  simp only [outV, can1]
  rw [e, ← word_bytes N, ← word_bytes (N / _), ← word_bytes (N / _ / _), ← word_bytes (N / _ / _ / _)]
  rfl

theorem run48 (b : List Int) : runX (cxF [(71, numbersC), (68, minusC)]) no 100 Tryd.f48 (body Tryd.f48) (can [.ints .u8 32] [.l b]) gmS =
  num1T (splice (List.replicate 64 0) 0 b) fun n => minus2T [n.getD 0 0, n.getD 1 0, n.getD 2 0, n.getD 3 0] orderL fun _ under => .ret (.bool (under == 1)) := by kernel_rfl
abbrev checkSC : List SV → T SV := ct [.ints .u8 32] (fun | [.l b] => U8 b | _ => False) [.bool] (fun | [.l b] => [.b (decide (bv b < L25))] | _ => [])
theorem toL_getD (n : Int) : [(toL 8 n).getD 0 0, (toL 8 n).getD 1 0, (toL 8 n).getD 2 0, (toL 8 n).getD 3 0] = toL 4 n := rfl
theorem bv32_lt {b : List Int} (h : U8 b) (hl : b.length = 32) : 0 ≤ bv b ∧ bv b < 115792089237316195423570985008687907853269984665640564039457584007913129639936 := by
  have := bv_range h
  rw [hl, show (256 : Int) ^ 32 = 115792089237316195423570985008687907853269984665640564039457584007913129639936 by decide +kernel] at this
  exact this
theorem fn48 : FnOk Tryd.prog GS 48 checkSC := by
  refine fnOk_ct (cxS_ok (fns := [(71, numbersC), (68, minusC)]) ⟨fn71S, fn68S, trivial⟩) gS Tryd.func48 (c := body Tryd.f48) (by kernel_rfl) (enters_of Tryd.func48 (by kernel_rfl) (by kernel_rfl)) (bl := no) (fuel := 100) noBlS ?_
  intro xs hfit hp
  obtain ⟨b, rfl, hb⟩ := fit_l1 hfit
  have ub : U8 b := hp
  refine ⟨by simp [fit, fit1], ?_⟩
  rw [run48, splice32 b hb]
  simp only [num1T, minus2T, T.good]
  rw [toL_getD, bv_z]
  refine ⟨U8_z ub 32, ⟨toL_u64 _ _, uOrder⟩, ?_⟩
  have hr := bv32_lt ub hb
  rw [val_toL4, Int.emod_eq_of_lt hr.1 hr.2, val_order]
  simp only [outV, can1]
  by_cases h : bv b < L25
  · rw [if_pos h, decide_eq_true h]; rfl
  · rw [if_neg h, decide_eq_false h]; rfl

theorem run40 (a : List Int) : runX (cxF [(67, belowSC), (68, minusC)]) no 100 Tryd.f40 (body Tryd.f40) (can l1 [.l a]) gmS =
  belS a fun a => .ite (a == z4) (.ret (.ints .u64 4 a)) (minus2T orderL a fun r _ => .ret (.ints .u64 4 r)) := by kernel_rfl
abbrev negSC : List SV → T SV := ct l1 (fun | [.l a] => U64 a | _ => False) [i4] (fun | [.l a] => [.l (toL 4 ((-val a) % L25))] | _ => [])
theorem neg_modL (x : Int) (h : x % L25 ≠ 0) : (-x) % L25 = L25 - x % L25 := by
  have h1 := Int.emod_add_mul_ediv x L25
  have hm := modL x
  have e : -x = (L25 - x % L25) + L25 * (-(x / L25) - 1) := by rw [Int.mul_sub, Int.mul_neg, Int.mul_one]; omega
  rw [e, Int.add_mul_emod_self_left]
  exact Int.emod_eq_of_lt (by omega) (by omega)
theorem neg_modL0 (x : Int) (h : x % L25 = 0) : (-x) % L25 = 0 := by
  have h1 := Int.emod_add_mul_ediv x L25
  have e : -x = 0 + L25 * (-(x / L25)) := by rw [Int.mul_neg]; omega
  rw [e, Int.add_mul_emod_self_left]; rfl
theorem fn40 : FnOk Tryd.prog GS 40 negSC := by
  refine fnOk_ct (cxS_ok (fns := [(67, belowSC), (68, minusC)]) ⟨fn67, fn68S, trivial⟩) gS Tryd.func40 (c := body Tryd.f40) (by kernel_rfl) (enters_of Tryd.func40 (by kernel_rfl) (by kernel_rfl)) (bl := no) (fuel := 100) noBlS ?_
  intro xs hfit hp
  obtain ⟨a, rfl, ha⟩ := fit_l1 hfit
  have ua : U64 a := hp
  refine ⟨fit_i4 _, ?_⟩
  rw [run40]
  simp only [belS, minus2T, T.good]
  refine ⟨ua, fun h => ?_, fun h => ⟨⟨uOrder, toL_u64 _ _⟩, ?_⟩⟩
  · have h0 : val a % L25 = 0 := by
      have := congrArg val (beq_iff_eq.1 h)
      rwa [val_toLL, val_z4] at this
    simp only [outV, can1]
    rw [neg_modL0 _ h0, h0]
  · have h0 : val a % L25 ≠ 0 := fun h0 => by rw [h0] at h; cases h
    simp only [outV, can1]
    rw [val_toLL, val_order, neg_modL _ h0]

/-! ### awake -/
abbrev orderB : List Int := [237, 211, 245, 92, 26, 99, 18, 88, 214, 156, 247, 162, 222, 249, 222, 20, 0, 0, 0, 0, 0, 0, 0, 0, 0, 0, 0, 0, 0, 0, 0, 16]
theorem run62 : runX (cxF []) no 100 Tryd.f62 (body Tryd.f62) [] gmS = .ret (.ints .u8 32 orderB) := by kernel_rfl
abbrev orderC : List SV → T SV := ct [] (fun _ => True) [.ints .u8 32] (fun _ => [.l orderB])
theorem fn62 : FnOk Tryd.prog GS 62 orderC := by
  refine fnOk_ct (cxS_ok (fns := []) trivial) gS Tryd.func62 (c := body Tryd.f62) (by kernel_rfl) (enters_of Tryd.func62 (by kernel_rfl) (by kernel_rfl)) (bl := no) (fuel := 100) noBlS ?_
  intro xs hfit hp
  obtain rfl := fit_0 hfit
  refine ⟨by simp [fit, fit1], ?_⟩
  rw [show can [] [] = [] from rfl, run62]
  rfl
theorem u8_of {l : List Int} (h : (l.all fun x => decide (0 ≤ x ∧ x < 256)) = true) : U8 l := fun x hx => of_decide_eq_true (List.all_eq_true.1 h x hx)
abbrev b258x : List Int := [2, 1] ++ List.replicate 62 0
abbrev e1b : List Int := [1] ++ List.replicate 31 0
abbrev Lm1 : List Int := [6346243789798364140, 1503914060200516822, 0, 1152921504606846976]
theorem sb62 : FnOk Tryd.prog GS 62 (spG [] (tabF [.ints .u8 32] [([], [.l orderB])])) := fn62.tab1 _ _ trivial rfl
theorem sb44 : FnOk Tryd.prog GS 44 (spG [.ints .u8 32] (tabF [i4] [([.l orderB], [.l z4])])) := fn44.tab1 _ _ (show U8 orderB from u8_of (by decide)) rfl
theorem sb42 : FnOk Tryd.prog GS 42 (spG [.ints .u8 64] (tabF [i4] [([.l b258x], [.l [258, 0, 0, 0]])])) := fn42.tab1 _ _ (show U8 b258x from u8_of (by decide)) rfl
theorem sb46 : FnOk Tryd.prog GS 46 (spG l1 (tabF [.ints .u8 32] [([.l [258, 0, 0, 0]], [.l b258])])) := fn46.tab1 _ _ (u64_4.2 (by decide)) rfl
theorem sb48 : FnOk Tryd.prog GS 48 (spG [.ints .u8 32] (tabF [.bool] [([.l orderB], [.b false]), ([.l e1b], [.b true])])) := fn48.tab2 _ _ _ _ (show U8 orderB from u8_of (by decide)) rfl (show U8 e1b from u8_of (by decide)) rfl
theorem sb40 : FnOk Tryd.prog GS 40 (spG l1 (tabF [i4] [([.l [1, 0, 0, 0]], [.l Lm1])])) := fn40.tab1 _ _ (u64_4.2 (by decide)) rfl
theorem sb36 : FnOk Tryd.prog GS 36 (spG l2 (tabF [i4] [([.l Lm1, .l [3, 0, 0, 0]], [.l [2, 0, 0, 0]])])) := fn36.tab1 _ _ ⟨u64_4.2 (by decide), u64_4.2 (by decide)⟩ rfl
theorem sb38 : FnOk Tryd.prog GS 38 (spG l2 (tabF [i4] [([.l [3, 0, 0, 0], .l [5, 0, 0, 0]], [.l [15, 0, 0, 0]])])) := fn38.tab1 _ _ ⟨u64_4.2 (by decide), u64_4.2 (by decide)⟩ rfl
noncomputable abbrev cxSw : List (Nat × (List SV → T SV)) := [(62, spG [] (tabF [.ints .u8 32] [([], [.l orderB])])), (44, spG [.ints .u8 32] (tabF [i4] [([.l orderB], [.l z4])])), (42, spG [.ints .u8 64] (tabF [i4] [([.l b258x], [.l [258, 0, 0, 0]])])),
  (46, spG l1 (tabF [.ints .u8 32] [([.l [258, 0, 0, 0]], [.l b258])])), (48, spG [.ints .u8 32] (tabF [.bool] [([.l orderB], [.b false]), ([.l e1b], [.b true])])), (40, spG l1 (tabF [i4] [([.l [1, 0, 0, 0]], [.l Lm1])])),
  (36, spG l2 (tabF [i4] [([.l Lm1, .l [3, 0, 0, 0]], [.l [2, 0, 0, 0]])])), (38, spG l2 (tabF [i4] [([.l [3, 0, 0, 0], .l [5, 0, 0, 0]], [.l [15, 0, 0, 0]])]))]
theorem cxSw_ok : FnsOk Tryd.prog GS cxSw := ⟨sb62, sb44, sb42, sb46, sb48, sb40, sb36, sb38, trivial⟩
theorem up35 : comesTrue (runX (cxF cxSw) no 100 Tryd.f35 (body Tryd.f35) [] gmS) = true := by kernel_rfl
theorem up35g : (runX (cxF cxSw) no 100 Tryd.f35 (body Tryd.f35) [] gmS).good (fun u => ∀ ρ, u.den ρ = .bool true) := comesTrue_good up35
theorem fn35 : FnOk Tryd.prog GS 35 upF :=
  upF_of (cx := cxF cxSw) (cxS_ok cxSw_ok) (gm := gmS) gS (fn := Tryd.f35) Tryd.func35 (c := body Tryd.f35) (by kernel_rfl) (enters_of Tryd.func35 (by kernel_rfl) (by kernel_rfl)) (bl := no) (fuel := 100) noBlS up35g

/-! ### Classes modulo L -/
def Ln : Nat := 7237005577332262213973186563042994240857116359379907606001950938285454250989
instance : NeZero Ln := ⟨by decide +kernel⟩
theorem Ln_cast : (Ln : Int) = L25 := by decide +kernel
def fl (x : Int) : Fin Ln := Nt.toF Ln x
theorem fl_eq {x y : Int} : fl x = fl y ↔ x % L25 = y % L25 := by
  unfold fl; rw [Nt.toF_eq, Ln_cast]
theorem fl_mod (x : Int) : fl (x % L25) = fl x := by
  unfold fl; rw [← Ln_cast]; exact Nt.toF_mod Ln x
theorem fl_add (x y : Int) : fl (x + y) = fl x + fl y := Nt.toF_add Ln x y
theorem fl_mul (x y : Int) : fl (x * y) = fl x * fl y := Nt.toF_mul Ln x y
theorem fl_neg (x : Int) : fl (-x) = -fl x := Nt.toF_neg Ln x
theorem fl_zero : fl 0 = 0 := Nt.toF_zero Ln
theorem fl_one : fl 1 = 1 := Nt.toF_one Ln
theorem toLL_beq (x y : Int) : (toL 4 (x % L25) == toL 4 (y % L25)) = decide (fl x = fl y) := by
  by_cases h : fl x = fl y
  · rw [fl_eq.1 h, decide_eq_true h]; exact beq_self_eq_true _
  · rw [decide_eq_false h]
    refine beq_eq_false_iff_ne.2 fun hc => h (fl_eq.2 ?_)
    rw [← val_toLL x, hc, val_toLL]
theorem sbeq_z4 (x : Int) : (toL 4 (x % L25) == z4) = decide (fl x = 0) := by
  rw [show z4 = toL 4 (0 % L25) by decide +kernel, toLL_beq, fl_zero]
theorem sbeq_o4 (x : Int) : (toL 4 (x % L25) == o4) = decide (fl x = 1) := by
  rw [show o4 = toL 4 (1 % L25) by decide +kernel, toLL_beq, fl_one]
theorem sden {b : Bool} (h : b = true) : ∀ ρ, (SV.bool b).den ρ = (outV [.bool] [.b true]).den ρ := fun ρ => by rw [h]; rfl

def addS (a b : List Int) (k : List Int → T SV) : T SV := .need (U64 a ∧ U64 b) (k (toL 4 ((val a + val b) % L25)))
def mulS (a b : List Int) (k : List Int → T SV) : T SV := .need (U64 a ∧ U64 b) (k (toL 4 ((val a * val b) % L25)))
def negS (a : List Int) (k : List Int → T SV) : T SV := .need (U64 a) (k (toL 4 ((-val a) % L25)))
def bytesS (a : List Int) (k : List Int → T SV) : T SV := .need (U64 a) (k (toB 32 (val a % L25)))
def checkS (b : List Int) (k : Bool → T SV) : T SV := .need (U8 b) (k (decide (bv b < L25)))

/-! ### ScalarLaws -/
def laws10T (a b c : List Int) : T SV :=
  addS a b fun ab => addS b a fun ba => okT (ab == ba) <|
  addS a b fun ab => addS ab c fun x => addS b c fun bc => addS a bc fun y => okT (x == y) <|
  negS a fun na => addS a na fun s3 =>
  mulS a b fun ab => mulS b a fun ba => okT (ab == ba) <|
  mulS a b fun ab => mulS ab c fun x => mulS b c fun bc => mulS a bc fun y => okT (x == y) <|
  mulS a o4 fun a1 => addS a z4 fun a0 => okT (s3 == z4) <| okT (a1 == a0) <|
  addS b c fun bc => mulS a bc fun x => mulS a b fun ab => mulS a c fun ac => addS ab ac fun y => .ret (.bool (x == y))
noncomputable abbrev fns10 : List (Nat × (List SV → T SV)) := [(36, addSC), (38, mulSC), (40, negSC), (35, upF)]
theorem run10 (a b c : List Int) : prune (runX (cxF fns10) no 100 Tryd.f10 (body Tryd.f10) (can [i4, i4, i4] [.l a, .l b, .l c]) gmS) (List.replicate 20 true) = laws10T a b c := by kernel_rfl
theorem laws10_good (a b c : List Int) (u1 : U64 a) (u2 : U64 b) (u3 : U64 c) : Gd (laws10T a b c) fun u => ∀ ρ, u.den ρ = (outV [.bool] [.b true]).den ρ := by
  refine ⟨?_⟩
  simp only [laws10T, addS, mulS, negS, okT, T.good, val_toLL, val_z4, val_o4, toLL_beq, sbeq_z4, fl_mod, fl_add, fl_mul, fl_neg, fl_zero, fl_one]
  generalize fl (val a) = A
  generalize fl (val b) = B
  generalize fl (val c) = C
  refine ⟨⟨u1, u2⟩, ⟨u2, u1⟩, decide_eq_true (by grind), ⟨u1, u2⟩, ⟨ut4 _, u3⟩, ⟨u2, u3⟩, ⟨u1, ut4 _⟩, decide_eq_true (by grind), u1, ⟨u1, ut4 _⟩, ⟨u1, u2⟩, ⟨u2, u1⟩, decide_eq_true (by grind), ⟨u1, u2⟩, ⟨ut4 _, u3⟩, ⟨u2, u3⟩, ⟨u1, ut4 _⟩, decide_eq_true (by grind), ⟨u1, uo4⟩, ⟨u1, uz4⟩, decide_eq_true (by grind), decide_eq_true (by grind),
    ⟨u2, u3⟩, ⟨u1, ut4 _⟩, ⟨u1, u2⟩, ⟨u1, u3⟩, ⟨ut4 _, ut4 _⟩, sden (decide_eq_true (by grind))⟩
theorem fns10_ok : FnsOk Tryd.prog GS fns10 := ⟨fn36, fn38, fn40, fn35, trivial⟩
theorem fn10 : FnOk Tryd.prog GS 10 (ct [i4, i4, i4] (fun | [.l a, .l b, .l c] => U64 a ∧ U64 b ∧ U64 c | _ => False) [.bool] (fun _ => [.b true])) := by
  refine fnOk_gd (cxS_ok fns10_ok) gS Tryd.func10 (c := body Tryd.f10) (by kernel_rfl) (enters_of Tryd.func10 (by kernel_rfl) (by kernel_rfl)) (fuel := 100) ?_
  intro xs hfit hp
  obtain ⟨a, b, c, rfl, ha, hb, hc⟩ := fit_l3 hfit
  obtain ⟨u1, u2, u3⟩ := hp
  exact ⟨no, noBlS, by simp [fit, fit1], Gd.of_run (run10 a b c) (laws10_good a b c u1 u2 u3)⟩

/-! ### ScalarNegs -/
def laws12T (a b : List Int) : T SV :=
  negS o4 fun n => negS a fun na => negS na fun nn => addS a z4 fun a0 => okT (nn == a0) <|
  mulS n a fun m => negS a fun na => okT (m == na) <|
  addS a b fun ab => negS b fun nb => addS ab nb fun x => addS a z4 fun a0 => okT (x == a0) <|
  mulS n n fun m => okT (m == o4) <|
  addS a b fun ab => negS ab fun x => negS a fun na => negS b fun nb => addS na nb fun y => .ret (.bool (x == y))
theorem run12 (a b : List Int) : prune (runX (cxF fns10) no 100 Tryd.f12 (body Tryd.f12) (can l2 [.l a, .l b]) gmS) (List.replicate 20 true) = laws12T a b := by kernel_rfl
theorem laws12_good (a b : List Int) (u1 : U64 a) (u2 : U64 b) : Gd (laws12T a b) fun u => ∀ ρ, u.den ρ = (outV [.bool] [.b true]).den ρ := by
  refine ⟨?_⟩
  simp only [laws12T, addS, mulS, negS, okT, T.good, val_toLL, val_z4, val_o4, toLL_beq, sbeq_o4, fl_mod, fl_add, fl_mul, fl_neg, fl_zero, fl_one]
  generalize fl (val a) = A
  generalize fl (val b) = B
  exact ⟨uo4, u1, ut4 _, ⟨u1, uz4⟩, decide_eq_true (by grind), ⟨ut4 _, u1⟩, u1, decide_eq_true (by grind), ⟨u1, u2⟩, u2, ⟨ut4 _, ut4 _⟩, ⟨u1, uz4⟩, decide_eq_true (by grind), ⟨ut4 _, ut4 _⟩, decide_eq_true (by grind), ⟨u1, u2⟩, ut4 _, u1, u2, ⟨ut4 _, ut4 _⟩, sden (decide_eq_true (by grind))⟩
theorem fn12 : FnOk Tryd.prog GS 12 (ct l2 (fun | [.l a, .l b] => U64 a ∧ U64 b | _ => False) [.bool] (fun _ => [.b true])) := by
  refine fnOk_gd (cxS_ok fns10_ok) gS Tryd.func12 (c := body Tryd.f12) (by kernel_rfl) (enters_of Tryd.func12 (by kernel_rfl) (by kernel_rfl)) (fuel := 100) ?_
  intro xs hfit hp
  obtain ⟨a, b, rfl, ha, hb⟩ := fit_l2 hfit
  obtain ⟨u1, u2⟩ := hp
  exact ⟨no, noBlS, by simp [fit, fit1], Gd.of_run (run12 a b) (laws12_good a b u1 u2)⟩

/-! ### ScalarBack -/
abbrev powerB : List Int := List.replicate 32 0 ++ [1] ++ List.replicate 31 0
def laws11T (a b c : List Int) : T SV :=
  bytesS a fun x => ofS1T b fun y => ofS1T powerB fun p => ofS1T c fun fc => mulS p fc fun m => addS y m fun sum =>
  checkS x fun cx => okT cx <| ofS1T x fun fx => addS a z4 fun a0 => okT (fx == a0) <|
  bytesS y fun yb => checkS b fun cb => okT ((yb == b) == cb) <| ofS1T (b ++ c) fun o => .ret (.bool (o == sum))
noncomputable abbrev fns11 : List (Nat × (List SV → T SV)) := [(46, bytesSC), (44, fromSC), (42, ofSC), (38, mulSC), (36, addSC), (48, checkSC), (35, upF)]
theorem run11 (a : List Int) (b0 b1 b2 b3 b4 b5 b6 b7 b8 b9 b10 b11 b12 b13 b14 b15 b16 b17 b18 b19 b20 b21 b22 b23 b24 b25 b26 b27 b28 b29 b30 b31 c0 c1 c2 c3 c4 c5 c6 c7 c8 c9 c10 c11 c12 c13 c14 c15 c16 c17 c18 c19 c20 c21 c22 c23 c24 c25 c26 c27 c28 c29 c30 c31 : Int) : prune (runX (cxF fns11) no 100 Tryd.f11 (body Tryd.f11) (can [i4, .ints .u8 32, .ints .u8 32] [.l a, .l [b0, b1, b2, b3, b4, b5, b6, b7, b8, b9, b10, b11, b12, b13, b14, b15, b16, b17, b18, b19, b20, b21, b22, b23, b24, b25, b26, b27, b28, b29, b30, b31], .l [c0, c1, c2, c3, c4, c5, c6, c7, c8, c9, c10, c11, c12, c13, c14, c15, c16, c17, c18, c19, c20, c21, c22, c23, c24, c25, c26, c27, c28, c29, c30, c31]]) gmS) (List.replicate 20 true) =
  laws11T a [b0, b1, b2, b3, b4, b5, b6, b7, b8, b9, b10, b11, b12, b13, b14, b15, b16, b17, b18, b19, b20, b21, b22, b23, b24, b25, b26, b27, b28, b29, b30, b31] [c0, c1, c2, c3, c4, c5, c6, c7, c8, c9, c10, c11, c12, c13, c14, c15, c16, c17, c18, c19, c20, c21, c22, c23, c24, c25, c26, c27, c28, c29, c30, c31] := by kernel_rfl

theorem sbv_toB : ∀ (k : Nat) (n : Int), 0 ≤ n → n < 256 ^ k → bv (toB k n) = n
  | 0, n, h0, h1 => by simp at h1; simp [toB, bv]; omega
  | k + 1, n, h0, h1 => by
    simp only [toB, bv]
    rw [Int.pow_succ] at h1
    rw [sbv_toB k (n / 256) (by omega) (Int.ediv_lt_of_lt_mul (by decide) h1)]
    omega
theorem stoB_u8 : ∀ (k : Nat) (n : Int), U8 (toB k n)
  | 0, n, x, hx => by simp [toB] at hx
  | k + 1, n, x, hx => by
    rcases List.mem_cons.1 hx with rfl | hx
    · omega
    · exact stoB_u8 k _ x hx
theorem toB_bv : ∀ {b : List Int}, U8 b → toB b.length (bv b) = b
  | [], _ => rfl
  | x :: l, h => by
    have h1 := h x (by simp)
    have ih := toB_bv (b := l) (fun y hy => h y (by simp [hy]))
    simp only [List.length_cons, toB, bv]
    congr 1
    · omega
    · rw [show (x + 256 * bv l) / 256 = bv l by omega]; exact ih
theorem bvL (n : Int) : bv (toB 32 (n % L25)) = n % L25 := sbv_toB 32 _ (modL n).1 (Int.lt_trans (modL n).2 (by decide +kernel))
theorem bv_append : ∀ (a b : List Int), bv (a ++ b) = bv a + 256 ^ a.length * bv b
  | [], b => by simp [bv]
  | x :: l, b => by
    simp only [List.cons_append, bv, List.length_cons, bv_append l b, Int.pow_succ]
    rw [Int.mul_add, Int.mul_comm (256 ^ l.length) 256, Int.mul_assoc]; omega

theorem laws11_good (a b c : List Int) (u1 : U64 a) (ub : U8 b) (uc : U8 c) (hb : b.length = 32) : Gd (laws11T a b c) fun u => ∀ ρ, u.den ρ = (outV [.bool] [.b true]).den ρ := by
  refine ⟨?_⟩
  have hp : bv powerB = 256 ^ 32 := by decide +kernel
  have up : U8 powerB := u8_of (by decide)
  simp only [laws11T, addS, mulS, bytesS, checkS, ofS1T, okT, T.good, val_toLL, val_z4, bvL, toLL_beq, fl_mod, fl_add, fl_mul, fl_zero, bv_append, hb, hp]
  have hm := modL (bv b)
  refine ⟨u1, ub, up, uc, ⟨ut4 _, ut4 _⟩, ⟨ut4 _, ut4 _⟩, stoB_u8 _ _, decide_eq_true (modL _).2, stoB_u8 _ _, ⟨u1, uz4⟩, decide_eq_true (by grind), ut4 _, ub, ?_, U8.append.2 ⟨ub, uc⟩, sden (decide_eq_true trivial)⟩
  have hr := bv_range ub
  rw [Int.emod_emod_of_dvd _ (Int.dvd_refl L25)]
  by_cases h : bv b < L25
  · rw [decide_eq_true h, Int.emod_eq_of_lt hr.1 h]
    have := toB_bv ub
    rw [hb] at this
    rw [this, beq_self_eq_true]; rfl
  · rw [decide_eq_false h]
    have : (toB 32 (bv b % L25) == b) = false := by
      refine beq_eq_false_iff_ne.2 fun he => h ?_
      have := congrArg bv he
      rw [bvL] at this
      omega
    rw [this]; rfl
theorem fns11_ok : FnsOk Tryd.prog GS fns11 := ⟨fn46, fn44, fn42, fn38, fn36, fn48, fn35, trivial⟩
theorem fn11 : FnOk Tryd.prog GS 11 (ct [i4, .ints .u8 32, .ints .u8 32] (fun | [.l a, .l b, .l c] => U64 a ∧ U8 b ∧ U8 c | _ => False) [.bool] (fun _ => [.b true])) := by
  refine fnOk_gd (cxS_ok fns11_ok) gS Tryd.func11 (c := body Tryd.f11) (by kernel_rfl) (enters_of Tryd.func11 (by kernel_rfl) (by kernel_rfl)) (fuel := 100) ?_
  intro xs hfit hp
  obtain ⟨a, b, c, rfl, ha, hb, hc⟩ := fit_l3 hfit
  obtain ⟨u1, u2, u3⟩ := hp
  have hg := laws11_good a b c u1 u2 u3 hb
  clear hfit
  obtain ⟨b0, b1, b2, b3, b4, b5, b6, b7, b8, b9, b10, b11, b12, b13, b14, b15, b16, b17, b18, b19, b20, b21, b22, b23, b24, b25, b26, b27, b28, b29, b30, b31, rfl⟩ := len32 hb
  obtain ⟨c0, c1, c2, c3, c4, c5, c6, c7, c8, c9, c10, c11, c12, c13, c14, c15, c16, c17, c18, c19, c20, c21, c22, c23, c24, c25, c26, c27, c28, c29, c30, c31, rfl⟩ := len32 hc
  exact ⟨no, noBlS, by simp [fit, fit1], Gd.of_run (run11 a b0 b1 b2 b3 b4 b5 b6 b7 b8 b9 b10 b11 b12 b13 b14 b15 b16 b17 b18 b19 b20 b21 b22 b23 b24 b25 b26 b27 b28 b29 b30 b31 c0 c1 c2 c3 c4 c5 c6 c7 c8 c9 c10 c11 c12 c13 c14 c15 c16 c17 c18 c19 c20 c21 c22 c23 c24 c25 c26 c27 c28 c29 c30 c31) hg⟩
end Go.Proofs.YtdmphnfpcblfnaaDoor
