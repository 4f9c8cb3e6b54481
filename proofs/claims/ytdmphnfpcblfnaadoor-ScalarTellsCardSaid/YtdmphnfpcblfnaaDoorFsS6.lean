import Derived.Test.YtdmphnfpcblfnaaDoorFsS5
/- The document's answer for scalars: numbers of bytes, products; the law ScalarTells. -/
namespace Go.Proofs.YtdmphnfpcblfnaaDoor
open Go Go.Sx
set_option maxRecDepth 100000

def ksO : Fg := ⟨[.keep, .keep, .keep, .keep, .soft] ++ List.replicate 22 .junk, 3, 6⟩
def jsO : Fg := ⟨[.keep, .keep, .keep, .keep, .junk] ++ List.replicate 22 .junk, 3, 6⟩
def memO (b out : List Int) : Mem := [(0, .st true [.ints .u8 64 b]), (1, .st true [.ints .u64 4 [0, 0, 0, 0]]), (3, .st true [.ints .u64 4 out])]
def invO (b : List Int) (i : Int) (out : List Int) : St := ⟨[.ints .u8 64 b, ptr0 0, ptr0 1, ptr0 3, .int .i64 i] ++ junks 5 22, memO b out, 6⟩
def outO (b out : List Int) : St := ⟨[.ints .u8 64 b, ptr0 0, ptr0 1, ptr0 3] ++ junks 4 23, memO b out, 6⟩
noncomputable def bodyO : Code := unloop (Code.blk (body Tryd.f43) 0)
noncomputable abbrev cxO : Cx := cxF [(37, addSC)]
theorem roundO (b out : List Int) (i : Int) : endOf ksO jsO (exec cxO (drawS cxO) no 100 bodyO (invO b i out)) =
  .ite (decide (i ≥ 0)) (.need (U64 out ∧ U64 out) (.need (0 ≤ IntKind.i64.wrap (i.tdiv 8) ∧ IntKind.i64.wrap (i.tdiv 8) < 64) (.need ((IntKind.i64.wrap (i.tdiv 8)).toNat + 1 ≤ 64) (.need (0 ≤ IntKind.u64.wrap (i.tmod 8))
      (.ite ((shrI .u8 (b.getD (IntKind.i64.wrap (i.tdiv 8)).toNat 0) (IntKind.u64.wrap (i.tmod 8))).tmod 2 == 1)
        (.need (U64 (toL 4 ((val out + val out) % L25)) ∧ U64 [1, 0, 0, 0]) (.ret (.normal, invO b (IntKind.i64.wrap (i - 1)) (toL 4 ((val (toL 4 ((val out + val out) % L25)) + val [1, 0, 0, 0]) % L25)))))
        (.ret (.normal, invO b (IntKind.i64.wrap (i - 1)) (toL 4 ((val out + val out) % L25)))))))))
  (.ret (.exit 0, outO b out)) := by kernel_rfl
noncomputable def blO (b out : List Int) : Blocks := fun i => match Nat.beq i 0 with
  | true => some (loopF ksO (invO b 511 [0, 0, 0, 0]) (outO b out))
  | false => none
theorem run43 (b out : List Int) : runX cxO (blO b out) 100 Tryd.f43 (body Tryd.f43) (can [.ints .u8 64] [.l b]) gmT =
  .need (invO b 511 [0, 0, 0, 0] = invO b 511 [0, 0, 0, 0]) (.ret (.ints .u64 4 out)) := by kernel_rfl
theorem run45 (b0 b1 b2 b3 b4 b5 b6 b7 b8 b9 b10 b11 b12 b13 b14 b15 b16 b17 b18 b19 b20 b21 b22 b23 b24 b25 b26 b27 b28 b29 b30 b31 : Int) : runX (cxF [(43, ofSC)]) no 100 Tryd.f45 (body Tryd.f45) (can [.ints .u8 32] [.l [b0, b1, b2, b3, b4, b5, b6, b7, b8, b9, b10, b11, b12, b13, b14, b15, b16, b17, b18, b19, b20, b21, b22, b23, b24, b25, b26, b27, b28, b29, b30, b31]]) gmT = ofS1T ([b0, b1, b2, b3, b4, b5, b6, b7, b8, b9, b10, b11, b12, b13, b14, b15, b16, b17, b18, b19, b20, b21, b22, b23, b24, b25, b26, b27, b28, b29, b30, b31] ++ List.replicate 32 0) fun r => l11 r := by kernel_rfl

def ksM : Fg := ⟨[.keep, .keep, .keep, .keep, .keep, .keep, .soft] ++ List.replicate 24 .junk, 4, 10⟩
def jsM : Fg := ⟨[.keep, .keep, .keep, .keep, .keep, .keep, .junk] ++ List.replicate 24 .junk, 4, 10⟩
def memM (a b out : List Int) : Mem := [(0, .st true [.ints .u64 4 a]), (1, .st true [.ints .u64 4 b]), (2, .st true [.ints .u64 4 [0, 0, 0, 0]]), (7, .st true [.ints .u64 4 out])]
def invM (a b b' : List Int) (i : Int) (out : List Int) : St := ⟨[.ints .u64 4 a, .ints .u64 4 b, ptr0 0, ptr0 1, ptr0 2, ptr0 7, .int .i64 i] ++ junks 7 24, memM a b' out, 10⟩
def outM (a b b' out : List Int) : St := ⟨[.ints .u64 4 a, .ints .u64 4 b, ptr0 0, ptr0 1, ptr0 2, ptr0 7] ++ junks 6 25, memM a b' out, 10⟩
noncomputable def bodyM : Code := unloop (Code.blk (body Tryd.f39) 0)
noncomputable abbrev cxM : Cx := cxF [(65, belowSC), (37, addSC)]
theorem roundM (a b n out : List Int) (i : Int) : endOf ksM jsM (exec cxM (drawS cxM) no 100 bodyM (invM a b n i out)) =
  .ite (decide (i ≥ 0)) (.need (U64 out ∧ U64 out) (.need (0 ≤ IntKind.i64.wrap (i.tdiv 64) ∧ IntKind.i64.wrap (i.tdiv 64) < 4) (.need ((IntKind.i64.wrap (i.tdiv 64)).toNat + 1 ≤ 4) (.need (0 ≤ IntKind.u64.wrap (i.tmod 64))
      (.ite ((shrI .u64 (n.getD (IntKind.i64.wrap (i.tdiv 64)).toNat 0) (IntKind.u64.wrap (i.tmod 64))).tmod 2 == 1)
        (.need (U64 (toL 4 ((val out + val out) % L25)) ∧ U64 a) (.ret (.normal, invM a b n (IntKind.i64.wrap (i - 1)) (toL 4 ((val (toL 4 ((val out + val out) % L25)) + val a) % L25)))))
        (.ret (.normal, invM a b n (IntKind.i64.wrap (i - 1)) (toL 4 ((val out + val out) % L25)))))))))
  (.ret (.exit 0, outM a b n out)) := by kernel_rfl
noncomputable def blM (a b n out : List Int) : Blocks := fun i => match Nat.beq i 0 with
  | true => some (loopF ksM (invM a b n 255 [0, 0, 0, 0]) (outM a b n out))
  | false => none
theorem run39 (a b n out : List Int) : runX cxM (blM a b n out) 100 Tryd.f39 (body Tryd.f39) (can l2 [.l a, .l b]) gmT =
  belS b fun b' => .need (invM a b b' 255 [0, 0, 0, 0] = invM a b n 255 [0, 0, 0, 0]) (.ret (.ints .u64 4 out)) := by kernel_rfl

theorem bv_digit : ∀ (l : List Int) (q r : Nat), U8 l → r < 8 → bv l / 2 ^ (8 * q + r) % 2 = (l.getD q 0) / 2 ^ r % 2
  | [], q, r, _, _ => by simp [bv]
  | x :: l, 0, r, h, hr => by
    simp only [bv, Nat.mul_zero, Nat.zero_add, List.getD_cons_zero]
    have e : (256 : Int) * bv l = (2 ^ r : Int) * (2 * (2 ^ (7 - r) * bv l)) := by
      have : (2 : Int) ^ r * 2 ^ (7 - r) = 2 ^ 7 := by rw [← Int.pow_add]; congr 1; omega
      rw [← Int.mul_assoc, ← Int.mul_assoc, Int.mul_assoc (2 ^ r) 2, Int.mul_comm 2, ← Int.mul_assoc, this]
      rfl
    rw [e, Int.add_mul_ediv_left _ _ (Int.ne_of_gt (Int.pow_pos (by decide))), Int.add_mul_emod_self_left]
  | x :: l, q + 1, r, h, hr => by
    have hx := h x (by simp)
    have hl : U8 l := fun y hy => h y (by simp [hy])
    rw [List.getD_cons_succ, ← bv_digit l q r hl hr]
    have e : (2 : Int) ^ (8 * (q + 1) + r) = 256 * 2 ^ (8 * q + r) := by
      rw [show 8 * (q + 1) + r = 8 + (8 * q + r) by omega, Int.pow_add]; rfl
    rw [e, ← Int.ediv_ediv_of_nonneg (by decide)]
    congr 2
    simp only [bv]
    omega
theorem U8.getD' {l : List Int} (h : U8 l) (j : Nat) : 0 ≤ l.getD j 0 := by
  by_cases hj : j < l.length
  · rw [List.getD_eq_getElem?_getD, List.getElem?_eq_getElem hj]; exact (h _ (List.getElem_mem hj)).1
  · rw [List.getD_eq_getElem?_getD, List.getElem?_eq_none (by omega)]; exact Int.le_refl 0
theorem shrI_u8 (x : Int) (k : Nat) (hk : k ≤ 8) : shrI .u8 x (k : Int) = x / 2 ^ k := by
  simp only [shrI, IntKind.bits, Int.toNat_natCast, Nat.min_eq_left hk]
  exact Int.fdiv_eq_ediv_of_nonneg _ (Int.le_of_lt (Int.pow_pos (by decide)))
theorem half_stepN (M : Nat) (N : Int) (i : Nat) (hN : 0 ≤ N) (hi : i < M) : N / 2 ^ (M - (i + 1)) = N / 2 ^ (M - i) + N / 2 ^ (M - i) + N / 2 ^ (M - 1 - i) % 2 := by
  have e : (2 : Int) ^ (M - i) = 2 ^ (M - 1 - i) * 2 := by rw [show M - i = (M - 1 - i) + 1 by omega, Int.pow_succ]
  rw [show M - (i + 1) = M - 1 - i by omega, e, ← Int.ediv_ediv_of_nonneg (Int.le_of_lt (Int.pow_pos (by decide)))]
  omega
theorem dbl0 (X A : Int) : (X * A % L25 + X * A % L25) % L25 = (X + X + 0) * A % L25 := by
  apply fl_eq.1
  simp only [fl_add, fl_mul, fl_mod, fl_zero]
  grind
theorem dbl1 (X A : Int) : ((X + X + 0) * A % L25 + A) % L25 = (X + X + 1) * A % L25 := by
  apply fl_eq.1
  simp only [fl_add, fl_mul, fl_mod, fl_one, fl_zero]
  grind
theorem val_1 : val [1, 0, 0, 0] = 1 := by decide

/-! ### Of -/
noncomputable def InvO (b : List Int) (i : Nat) : St := invO b (511 - i) (toL 4 (bv b / 2 ^ (512 - i) * 1 % L25))
theorem roundO_good (b : List Int) (ub : U8 b) (_ : b.length = 64) (i : Nat) (hi : i ≤ 512) : (endOf ksO jsO (exec cxO (drawS cxO) no 100 bodyO (InvO b i))).good fun r => match r.1 with
      | .normal => ∃ i', i' ≤ 512 ∧ r.2 = InvO b i' ∧ 512 - i' < 512 - i
      | .exit j => j = 0 ∧ r.2 = outO b (toL 4 (bv b % L25))
      | .ret => False := by
  have rn := bv_range ub
  unfold InvO
  rw [roundO]
  simp only [T.good, decide_eq_true_eq, decide_eq_false_iff_not, ge_iff_le]
  refine ⟨fun hlt => ?_, fun hlt => ?_⟩
  · have hi' : i < 512 := by omega
    rw [wrap_i64 ((511 - (i : Int)).tdiv 8) (by rw [Int.tdiv_eq_ediv_of_nonneg (by omega)]; omega), wrap_i64 (511 - (i : Int) - 1) (by omega),
      Int.tdiv_eq_ediv_of_nonneg (by omega), Int.tmod_eq_emod_of_nonneg (by omega), wrap_u64, Int.emod_eq_of_lt (a := (511 - (i : Int)) % 8) (by omega) (by omega)]
    have hq : ((511 - (i : Int)) / 8).toNat = (511 - i) / 8 := by omega
    have hr : (511 - (i : Int)) % 8 = (((511 - i) % 8 : Nat) : Int) := by omega
    have hs : 8 * ((511 - i) / 8) + (511 - i) % 8 = 511 - i := by omega
    have hd := bv_digit b ((511 - i) / 8) ((511 - i) % 8) ub (by omega)
    rw [hs] at hd
    refine ⟨⟨toL_u64 _ _, toL_u64 _ _⟩, by omega, by omega, by omega, ?_⟩
    have hdiv : 0 ≤ b.getD ((511 - i) / 8) 0 / 2 ^ ((511 - i) % 8) := Int.ediv_nonneg (U8.getD' ub _) (Int.le_of_lt (Int.pow_pos (by decide)))
    have hh := half_stepN 512 (bv b) i rn.1 hi'
    rw [hq, hr, shrI_u8 _ _ (by omega), Int.tmod_eq_emod_of_nonneg hdiv, ← hd]
    have ei : (511 : Int) - i - 1 = 511 - ((i + 1 : Nat) : Int) := by omega
    rw [ei]
    simp only [val_toLL, val_1, dbl0, beq_iff_eq, beq_eq_false_iff_ne, ne_eq]
    refine ⟨fun hb => ⟨⟨toL_u64 _ _, uo4⟩, i + 1, by omega, ?_, by omega⟩, fun hb => ⟨i + 1, by omega, ?_, by omega⟩⟩
    · rw [hh, hb, dbl1]
    · rw [hh, show bv b / 2 ^ (512 - 1 - i) % 2 = 0 by rw [show 512 - 1 - i = 511 - i by omega]; omega]
  · have : i = 512 := by omega
    subst this
    refine ⟨trivial, ?_⟩
    rw [Int.mul_one, Nat.sub_self, Int.pow_zero, Int.ediv_one]
theorem cxO_ok : CxOk Tryd.prog GT cxO := cxT_ok (fns := [(37, addSC)]) ⟨fn37, trivial⟩
theorem fn43 : FnOk Tryd.prog GT 43 ofSC := by
  refine fnOk_lp cxO_ok gT Tryd.func43 (c := body Tryd.f43) (by kernel_rfl) (enters_of Tryd.func43 (by kernel_rfl) (by kernel_rfl)) (fuel := 100) ?_
  intro xs hfit hp
  obtain ⟨b, rfl, hb⟩ := fit_l1 hfit
  have ub : U8 b := hp
  have rn := bv_range ub
  rw [hb] at rn
  refine ⟨blO b (toL 4 (bv b % L25)), ?_, fit_i4 _, ?_⟩
  · intro Γ hG h0 hg hz
    refine blocksIn_of _ fun id f hf c hc => ?_
    have hid : id = 0 := by
      simp only [blO] at hf
      split at hf
      · rename_i h; exact Nat.eq_of_beq_eq_true h
      · cases hf
    subst hid
    have hbl : blksL (body Tryd.f43) 0 = [.loop bodyO] := by kernel_rfl
    rw [hbl] at hc
    have hc := List.mem_singleton.1 hc
    subst hc
    have hf : loopF ksO (invO b 511 [0, 0, 0, 0]) (outO b (toL 4 (bv b % L25))) = f := by
      simpa [blO] using hf
    subst hf
    have e0 : invO b 511 [0, 0, 0, 0] = InvO b 0 := by
      unfold InvO
      rw [show bv b / 2 ^ (512 - 0) = 0 from Int.ediv_eq_zero_of_lt rn.1 (Int.lt_of_lt_of_le rn.2 (by decide +kernel))]
      rfl
    rw [e0]
    exact loop_rule (hG ▸ cxO_ok) hg h0 (drawS_sound (hG ▸ cxO_ok) hg h0) (bl := no) (blocksIn_none _) (InvO b) (fun i => 512 - i) (fun i => i ≤ 512) _ 100 ksO jsO (by rw [hz]; exact Nat.zero_le _) (by rw [hz]; exact Nat.zero_le _)
      (roundO_good b ub hb) 0 (Nat.zero_le _)
  · rw [run43]
    simp only [T.good]
    exact ⟨trivial, rfl⟩

/-! ### From -/
theorem fn45 : FnOk Tryd.prog GT 45 fromSC := by
  refine fnOk_gd (cxT_ok (fns := [(43, ofSC)]) ⟨fn43, trivial⟩) gT Tryd.func45 (c := body Tryd.f45) (by kernel_rfl) (enters_of Tryd.func45 (by kernel_rfl) (by kernel_rfl)) (fuel := 100) ?_
  intro xs hfit hp
  obtain ⟨b, rfl, hb⟩ := fit_l1 hfit
  have ub : U8 b := hp
  clear hp hfit
  have hz := bv_z b 32
  have uz := U8_z ub 32
  obtain ⟨b0, b1, b2, b3, b4, b5, b6, b7, b8, b9, b10, b11, b12, b13, b14, b15, b16, b17, b18, b19, b20, b21, b22, b23, b24, b25, b26, b27, b28, b29, b30, b31, rfl⟩ := len32 hb
  refine ⟨no, noBlT, fit_i4 _, Gd.of_eq (run45 b0 b1 b2 b3 b4 b5 b6 b7 b8 b9 b10 b11 b12 b13 b14 b15 b16 b17 b18 b19 b20 b21 b22 b23 b24 b25 b26 b27 b28 b29 b30 b31) ⟨?_⟩⟩
  refine ⟨uz, fun ρ => ?_⟩
  rw [hz]
  rfl

/-! ### Mul -/
noncomputable def InvM (a b n : List Int) (i : Nat) : St := invM a b n (255 - i) (toL 4 (val n / 2 ^ (256 - i) * val a % L25))
theorem roundM_good (a b n : List Int) (ua : U64 a) (un : U64 n) (hn : n.length = 4) (i : Nat) (hi : i ≤ 256) : (endOf ksM jsM (exec cxM (drawS cxM) no 100 bodyM (InvM a b n i))).good fun r => match r.1 with
      | .normal => ∃ i', i' ≤ 256 ∧ r.2 = InvM a b n i' ∧ 256 - i' < 256 - i
      | .exit j => j = 0 ∧ r.2 = outM a b n (toL 4 (val n * val a % L25))
      | .ret => False := by
  have rn := val4_range un hn
  unfold InvM
  rw [roundM]
  simp only [T.good, decide_eq_true_eq, decide_eq_false_iff_not, ge_iff_le]
  refine ⟨fun hlt => ?_, fun hlt => ?_⟩
  · have hi' : i < 256 := by omega
    rw [wrap_i64 ((255 - (i : Int)).tdiv 64) (by rw [Int.tdiv_eq_ediv_of_nonneg (by omega)]; omega), wrap_i64 (255 - (i : Int) - 1) (by omega),
      Int.tdiv_eq_ediv_of_nonneg (by omega), Int.tmod_eq_emod_of_nonneg (by omega), wrap_u64, Int.emod_eq_of_lt (a := (255 - (i : Int)) % 64) (by omega) (by omega)]
    have hq : ((255 - (i : Int)) / 64).toNat = (255 - i) / 64 := by omega
    have hr : (255 - (i : Int)) % 64 = (((255 - i) % 64 : Nat) : Int) := by omega
    have hs : 64 * ((255 - i) / 64) + (255 - i) % 64 = 255 - i := by omega
    have hd := digit_bit n ((255 - i) / 64) ((255 - i) % 64) un (by omega)
    rw [hs] at hd
    refine ⟨⟨toL_u64 _ _, toL_u64 _ _⟩, by omega, by omega, by omega, ?_⟩
    have hg' := U64.getD un ((255 - i) / 64)
    have hdiv : 0 ≤ n.getD ((255 - i) / 64) 0 / 2 ^ ((255 - i) % 64) := Int.ediv_nonneg hg'.1 (Int.le_of_lt (Int.pow_pos (by decide)))
    have hh := half_stepN 256 (val n) i rn.1 hi'
    rw [hq, hr, shrI_u64 _ _ (by omega), Int.tmod_eq_emod_of_nonneg hdiv, ← hd]
    have ei : (255 : Int) - i - 1 = 255 - ((i + 1 : Nat) : Int) := by omega
    rw [ei]
    simp only [val_toLL, dbl0, beq_iff_eq, beq_eq_false_iff_ne, ne_eq]
    refine ⟨fun hb => ⟨⟨toL_u64 _ _, ua⟩, i + 1, by omega, ?_, by omega⟩, fun hb => ⟨i + 1, by omega, ?_, by omega⟩⟩
    · rw [hh, hb, dbl1]
    · rw [hh, show val n / 2 ^ (256 - 1 - i) % 2 = 0 by rw [show 256 - 1 - i = 255 - i by omega]; omega]
  · have : i = 256 := by omega
    subst this
    refine ⟨trivial, ?_⟩
    rw [Nat.sub_self, Int.pow_zero, Int.ediv_one]
theorem cxM_ok : CxOk Tryd.prog GT cxM := cxT_ok (fns := [(65, belowSC), (37, addSC)]) ⟨fn65, fn37, trivial⟩
theorem mulEnd (a b : Int) : (b % L25) * a % L25 = a * b % L25 := by
  apply fl_eq.1
  simp only [fl_mul, fl_mod]
  grind
theorem fn39 : FnOk Tryd.prog GT 39 mulSC := by
  refine fnOk_lp cxM_ok gT Tryd.func39 (c := body Tryd.f39) (by kernel_rfl) (enters_of Tryd.func39 (by kernel_rfl) (by kernel_rfl)) (fuel := 100) ?_
  intro xs hfit hp
  obtain ⟨a, b, rfl, ha, hb⟩ := fit_l2 hfit
  obtain ⟨ua, ub⟩ := hp
  have hv := val_toLL (val b)
  have un : U64 (toL 4 (val b % L25)) := toL_u64 _ _
  have hn : (toL 4 (val b % L25)).length = 4 := toL_length _ _
  have rn := val4_range un hn
  refine ⟨blM a b (toL 4 (val b % L25)) (toL 4 (val a * val b % L25)), ?_, fit_i4 _, ?_⟩
  · intro Γ hG h0 hg hz
    refine blocksIn_of _ fun id f hf c hc => ?_
    have hid : id = 0 := by
      simp only [blM] at hf
      split at hf
      · rename_i h; exact Nat.eq_of_beq_eq_true h
      · cases hf
    subst hid
    have hbl : blksL (body Tryd.f39) 0 = [.loop bodyM] := by kernel_rfl
    rw [hbl] at hc
    have hc := List.mem_singleton.1 hc
    subst hc
    have hf : loopF ksM (invM a b (toL 4 (val b % L25)) 255 [0, 0, 0, 0]) (outM a b (toL 4 (val b % L25)) (toL 4 (val a * val b % L25))) = f := by
      simpa [blM] using hf
    subst hf
    have hend : toL 4 (val a * val b % L25) = toL 4 (val (toL 4 (val b % L25)) * val a % L25) := by rw [hv, mulEnd]
    rw [hend]
    clear hend hv
    generalize toL 4 (val b % L25) = n at un hn rn ⊢
    have e0 : invM a b n 255 [0, 0, 0, 0] = InvM a b n 0 := by
      unfold InvM
      rw [show val n / 2 ^ (256 - 0) = 0 from Int.ediv_eq_zero_of_lt rn.1 rn.2, Int.zero_mul]
      rfl
    rw [e0]
    exact loop_rule (hG ▸ cxM_ok) hg h0 (drawS_sound (hG ▸ cxM_ok) hg h0) (bl := no) (blocksIn_none _) (InvM a b n) (fun i => 256 - i) (fun i => i ≤ 256) _ 100 ksM jsM (by rw [hz]; exact Nat.zero_le _) (by rw [hz]; exact Nat.zero_le _)
      (roundM_good a b n ua un hn) 0 (Nat.zero_le _)
  · rw [run39]
    simp only [belS, T.good]
    exact ⟨ub, trivial, rfl⟩

abbrev toGS {g : FuncId} {spec : List SV → T SV} (h : FnOk Tryd.prog GT g spec) : FnOk Tryd.prog GS g spec := h.mono fun _ _ => trivial
def tells9T (a b c d : List Int) : T SV :=
  addS a b fun x => addS a b fun y => okT (x == y) <|
  mulS a b fun x => mulS a b fun y => okT (x == y) <|
  negS a fun x => negS a fun y => okT (x == y) <|
  ofS1T c fun x => ofS1T c fun y => okT (x == y) <|
  ofS1T d fun x => ofS1T d fun y => okT (x == y) <|
  bytesS a fun x => bytesS a fun y => okT (x == y) <|
  checkS d fun x => checkS d fun y => .ret (.bool (x == y))
noncomputable abbrev fns9 : List (Nat × (List SV → T SV)) := [(36, addSC), (37, addSC), (38, mulSC), (39, mulSC), (40, negSC), (41, negSC), (42, ofSC), (43, ofSC), (44, fromSC), (45, fromSC), (46, bytesSC), (47, bytesSC), (48, checkSC), (49, checkSC), (35, upF)]
theorem run9 (a b c d : List Int) : prune (runX (cxF fns9) no 100 Tryd.f9 (body Tryd.f9) (can [i4, i4, .ints .u8 64, .ints .u8 32] [.l a, .l b, .l c, .l d]) gmS) (List.replicate 20 true) = tells9T a b c d := by kernel_rfl
theorem fns9_ok : FnsOk Tryd.prog GS fns9 := ⟨fn36, toGS fn37, fn38, toGS fn39, fn40, toGS fn41, fn42, toGS fn43, fn44, toGS fn45, fn46, toGS fn47, fn48, toGS fn49, fn35, trivial⟩
theorem tells9_good (a b c d : List Int) (u1 : U64 a) (u2 : U64 b) (u3 : U8 c) (u4 : U8 d) : Gd (tells9T a b c d) fun u => ∀ ρ, u.den ρ = (outV [.bool] [.b true]).den ρ := by
  have e (l : List Int) : (l == l) = true := beq_self_eq_true l
  have e' (x : Bool) : (x == x) = true := beq_self_eq_true x
  refine ⟨?_⟩
  simp only [tells9T, addS, mulS, negS, ofS1T, bytesS, checkS, okT, T.good]
  exact ⟨⟨u1, u2⟩, ⟨u1, u2⟩, e _, ⟨u1, u2⟩, ⟨u1, u2⟩, e _, u1, u1, e _, u3, u3, e _, u4, u4, e _, u1, u1, e _, u4, u4, sden (e' _)⟩
theorem fn9 : FnOk Tryd.prog GS 9 (ct [i4, i4, .ints .u8 64, .ints .u8 32] (fun | [.l a, .l b, .l c, .l d] => U64 a ∧ U64 b ∧ U8 c ∧ U8 d | _ => False) [.bool] (fun _ => [.b true])) := by
  refine fnOk_gd (cxS_ok fns9_ok) gS Tryd.func9 (c := body Tryd.f9) (by kernel_rfl) (enters_of Tryd.func9 (by kernel_rfl) (by kernel_rfl)) (fuel := 100) ?_
  intro xs hfit hp
  obtain ⟨a, b, c, d, rfl, ha, hb, hc, hd⟩ := fit_l4 hfit
  obtain ⟨u1, u2, u3, u4⟩ := hp
  exact ⟨no, noBlS, by simp [fit, fit1], Gd.of_run (run9 a b c d) (tells9_good a b c d u1 u2 u3 u4)⟩
end Go.Proofs.YtdmphnfpcblfnaaDoor
