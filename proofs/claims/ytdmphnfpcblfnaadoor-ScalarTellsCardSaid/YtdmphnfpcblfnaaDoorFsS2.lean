import Derived.Test.YtdmphnfpcblfnaaDoorFsS1
import Derived.Test.YtdmphnfpcblfnaaDoorFs6
/- scalar.left: what is left over of a number, divided by L. -/
namespace Go.Proofs.YtdmphnfpcblfnaaDoor
open Go Go.Sx
set_option maxRecDepth 100000

def L25 : Int := 7237005577332262213973186563042994240857116359379907606001950938285454250989

def ksL : Fg := ⟨[.keep, .keep, .keep, .keep, .keep, .soft] ++ List.replicate 16 .junk, 4, 6⟩
def jsL : Fg := ⟨[.keep, .keep, .keep, .keep, .keep, .junk] ++ List.replicate 16 .junk, 4, 6⟩
def memL (n rest : List Int) : Mem := gmS ++ [(0, .st true [.ints .u64 8 n]), (1, .st true [.ints .u64 4 [0, 0, 0, 0]]), (2, .st true [.ints .u64 4 rest])]
def invL (n : List Int) (i : Int) (rest : List Int) : St := ⟨[.ints .u64 8 n, ptr0 0, ptr0 1, ptr0 2, .fn 75 [ptr0 2], .int .i64 i] ++ junks 6 16, memL n rest, 6⟩
def outL (n rest : List Int) : St := ⟨[.ints .u64 8 n, ptr0 0, ptr0 1, ptr0 2, .fn 75 [ptr0 2]] ++ junks 5 17, memL n rest, 6⟩
noncomputable def bodyL : Code := unloop (Code.blk (body Tryd.f64) 0)

def minus2T {α : Type} (a b : List Int) (k : List Int → Int → T α) : T α := .need (U64 a ∧ U64 b) (k (toL 4 (val a - val b)) (if val a < val b then 1 else 0))
def shl4 (r0 r1 r2 r3 bit : Int) : List Int := [bitsI .or .u64 (shlI .u64 r0 1) bit, bitsI .or .u64 (shlI .u64 r1 1) (shrI .u64 r0 63), bitsI .or .u64 (shlI .u64 r2 1) (shrI .u64 r1 63), bitsI .or .u64 (shlI .u64 r3 1) (shrI .u64 r2 63)]
def bitAt (n : List Int) (i : Int) : Int := bitsI .and .u64 (shrI .u64 (n.getD (IntKind.i64.wrap (i.tdiv 64)).toNat 0) (i.tmod 64)) 1

theorem roundL (n : List Int) (i r0 r1 r2 r3 : Int) : endOf ksL jsL (exec cxL (drawS cxL) no 100 bodyL (invL n i [r0, r1, r2, r3])) =
  .ite (decide (i ≥ 0)) (.need (0 ≤ IntKind.i64.wrap (i.tdiv 64) ∧ IntKind.i64.wrap (i.tdiv 64) < 8) (.need ((IntKind.i64.wrap (i.tdiv 64)).toNat + 1 ≤ 8) (.need (0 ≤ i.tmod 64)
    (minus2T (shl4 r0 r1 r2 r3 (bitAt n i)) orderL fun less under =>
      .ite (under == 0) (.ret (.normal, invL n (IntKind.i64.wrap (i - 1)) less)) (.ret (.normal, invL n (IntKind.i64.wrap (i - 1)) (shl4 r0 r1 r2 r3 (bitAt n i))))))))
  (.ret (.exit 0, outL n [r0, r1, r2, r3])) := by kernel_rfl

noncomputable def blL (n rest : List Int) : Blocks := fun i => match Nat.beq i 0 with
  | true => some (loopF ksL (invL n 511 [0, 0, 0, 0]) (outL n rest))
  | false => none
theorem run64 (n rest : List Int) : runX cxL (blL n rest) 100 Tryd.f64 (body Tryd.f64) (can [.ints .u64 8] [.l n]) gmS =
  .need (invL n 511 [0, 0, 0, 0] = invL n 511 [0, 0, 0, 0]) (.ret (.ints .u64 4 rest)) := by kernel_rfl

theorem or1 (x b : Int) (hx : 0 ≤ x ∧ x < 18446744073709551616) (hb : 0 ≤ b ∧ b < 2) : bitsI .or .u64 (shlI .u64 x 1) b = 2 * x % 18446744073709551616 + b := by
  obtain ⟨X, rfl⟩ := Int.eq_ofNat_of_zero_le hx.1
  obtain ⟨B, rfl⟩ := Int.eq_ofNat_of_zero_le hb.1
  have e : shlI .u64 (X : Int) 1 = ((2 * (X % 9223372036854775808) : Nat) : Int) := by
    have : shlI .u64 (X : Int) 1 = ((X : Int) * 2) % 18446744073709551616 := by rw [← wrap_u64]; rfl
    rw [this]
    simp only [Int.natCast_mul, Int.natCast_emod]
    omega
  rw [e]
  have e2 : bitsI .or .u64 ((2 * (X % 9223372036854775808) : Nat) : Int) (B : Int) = ((2 * (X % 9223372036854775808) ||| B : Nat) : Int) := u64_or_nat _ _ (by omega) (by omega)
  rw [e2]
  have h := Nat.two_pow_add_eq_or_of_lt (i := 1) (b := B) (by omega) (X % 9223372036854775808)
  rw [Nat.pow_one] at h
  rw [← h]
  omega

theorem shr63b (x : Int) (hx : 0 ≤ x ∧ x < 18446744073709551616) : shrI .u64 x 63 = x / 9223372036854775808 ∧ 0 ≤ shrI .u64 x 63 ∧ shrI .u64 x 63 < 2 := by
  have e : shrI .u64 x ((63 : Nat) : Int) = x / 2 ^ 63 := shrI_u64 x 63 (by omega)
  have e : shrI .u64 x 63 = x / 9223372036854775808 := e
  rw [e]
  omega

theorem shl4_spec (r0 r1 r2 r3 b : Int) (h : U64 [r0, r1, r2, r3]) (hb : 0 ≤ b ∧ b < 2) (hr : val [r0, r1, r2, r3] < 57896044618658097711785492504343953926634992332820282019728792003956564819968) :
    U64 (shl4 r0 r1 r2 r3 b) ∧ val (shl4 r0 r1 r2 r3 b) = 2 * val [r0, r1, r2, r3] + b := by
  have hq := u64_4.1 h
  obtain ⟨h0, h1, h2, h3⟩ := hq
  obtain ⟨a0, b0⟩ := shr63b r0 h0
  obtain ⟨a1, b1⟩ := shr63b r1 h1
  obtain ⟨a2, b2⟩ := shr63b r2 h2
  unfold shl4
  rw [or1 r0 b h0 hb, or1 r1 _ h1 b0, or1 r2 _ h2 b1, or1 r3 _ h3 b2, a0, a1, a2]
  simp only [val] at hr ⊢
  have h3' : r3 < 9223372036854775808 := by omega
  refine ⟨u64_4.2 ⟨by omega, by omega, by omega, by omega⟩, by omega⟩

theorem val8_range {a : List Int} (h : U64 a) (hl : a.length = 8) : 0 ≤ val a ∧ val a < 2 ^ 512 := by
  have := val_range h
  rw [hl, show pw 8 = 2 ^ 512 by decide +kernel] at this
  exact this

theorem L_pos : (0 : Int) < L25 := by decide
theorem modL (x : Int) : 0 ≤ x % L25 ∧ x % L25 < L25 := ⟨Int.emod_nonneg _ (by decide), Int.emod_lt_of_pos _ (by decide)⟩
theorem val_toLL (x : Int) : val (toL 4 (x % L25)) = x % L25 := by
  rw [val_toL4]
  have := modL x
  exact Int.emod_eq_of_lt this.1 (Int.lt_trans this.2 (by decide))
theorem val_order : val orderL = L25 := by decide
theorem uOrder : U64 orderL := u64_4.2 (by decide)

/-- A step of the division. -/
theorem step_mod (X b : Int) : (2 * X + b) % L25 = (2 * (X % L25) + b) % L25 := by
  rw [Int.add_emod, Int.mul_emod, Int.add_emod (2 * (X % L25)), Int.mul_emod 2 (X % L25), Int.emod_emod_of_dvd _ (Int.dvd_refl L25)]

noncomputable def InvL (n : List Int) (i : Nat) : St := invL n (511 - i) (toL 4 (val n / 2 ^ (512 - i) % L25))

theorem half_step (N : Int) (i : Nat) (hN : 0 ≤ N) (hi : i < 512) : N / 2 ^ (512 - (i + 1)) = 2 * (N / 2 ^ (512 - i)) + N / 2 ^ (511 - i) % 2 := by
  have e : (2 : Int) ^ (512 - i) = 2 ^ (511 - i) * 2 := by rw [show 512 - i = (511 - i) + 1 by omega, Int.pow_succ]
  rw [show 512 - (i + 1) = 511 - i by omega, e, ← Int.ediv_ediv_of_nonneg (Int.le_of_lt (Int.pow_pos (by decide)))]
  omega

theorem roundL_good (n : List Int) (un : U64 n) (hn : n.length = 8) (i : Nat) (hi : i ≤ 512) : (endOf ksL jsL (exec cxL (drawS cxL) no 100 bodyL (InvL n i))).good fun r => match r.1 with
      | .normal => ∃ i', i' ≤ 512 ∧ r.2 = InvL n i' ∧ 512 - i' < 512 - i
      | .exit j => j = 0 ∧ r.2 = outL n (toL 4 (val n % L25))
      | .ret => False := by
  have rn := val8_range un hn
  have hx := modL (val n / 2 ^ (512 - i))
  have hvx := val_toLL (val n / 2 ^ (512 - i))
  obtain ⟨r0, r1, r2, r3, e⟩ := len4 (toL_length 4 (val n / 2 ^ (512 - i) % L25))
  have ur : U64 [r0, r1, r2, r3] := e ▸ toL_u64 4 _
  unfold InvL
  rw [e] at hvx ⊢
  rw [roundL]
  simp only [T.good, minus2T, decide_eq_true_eq, decide_eq_false_iff_not, ge_iff_le]
  refine ⟨fun hlt => ?_, fun hlt => ?_⟩
  · have hi' : i < 512 := by omega
    rw [wrap_i64 ((511 - (i : Int)).tdiv 64) (by rw [Int.tdiv_eq_ediv_of_nonneg (by omega)]; omega), wrap_i64 (511 - (i : Int) - 1) (by omega),
      Int.tdiv_eq_ediv_of_nonneg (by omega), Int.tmod_eq_emod_of_nonneg (by omega)]
    have hb : bitAt n (511 - (i : Int)) = val n / 2 ^ (511 - i) % 2 := by
      have hq : ((511 - (i : Int)) / 64).toNat = (511 - i) / 64 := by omega
      have hr : (511 - (i : Int)) % 64 = (((511 - i) % 64 : Nat) : Int) := by omega
      have hs : 64 * ((511 - i) / 64) + (511 - i) % 64 = 511 - i := by omega
      have hd := digit_bit n ((511 - i) / 64) ((511 - i) % 64) un (by omega)
      rw [hs] at hd
      have hg' := U64.getD un ((511 - i) / 64)
      have hdiv : 0 ≤ n.getD ((511 - i) / 64) 0 / 2 ^ ((511 - i) % 64) ∧ n.getD ((511 - i) / 64) 0 / 2 ^ ((511 - i) % 64) < 18446744073709551616 :=
        ⟨Int.ediv_nonneg hg'.1 (Int.le_of_lt (Int.pow_pos (by decide))), Int.lt_of_le_of_lt (Int.ediv_le_self _ hg'.1) hg'.2⟩
      unfold bitAt
      rw [wrap_i64 ((511 - (i : Int)).tdiv 64) (by rw [Int.tdiv_eq_ediv_of_nonneg (by omega)]; omega), Int.tdiv_eq_ediv_of_nonneg (by omega), Int.tmod_eq_emod_of_nonneg (by omega), hq, hr, shrI_u64 _ _ (by omega), and1 _ hdiv, ← hd]
    rw [hb]
    have hbr : 0 ≤ val n / 2 ^ (511 - i) % 2 ∧ val n / 2 ^ (511 - i) % 2 < 2 := by omega
    have hstep := half_step (val n) i rn.1 hi'
    have hsm := step_mod (val n / 2 ^ (512 - i)) (val n / 2 ^ (511 - i) % 2)
    rw [← hstep, ← hvx] at hsm
    rw [← hvx] at hx
    have hsp := shl4_spec r0 r1 r2 r3 _ ur hbr (Int.lt_trans hx.2 (by decide))
    obtain ⟨s1, s2⟩ := hsp
    refine ⟨by omega, by omega, by omega, ⟨s1, uOrder⟩, ?_⟩
    rw [val_order, s2]
    have hlen : (shl4 r0 r1 r2 r3 (val n / 2 ^ (511 - i) % 2)).length = 4 := rfl
    have htl := toL_val s1
    rw [hlen, s2] at htl
    generalize val [r0, r1, r2, r3] = R at *
    generalize val n / 2 ^ (511 - i) % 2 = b at *
    refine ⟨fun hu => ⟨i + 1, by omega, ?_, by omega⟩, fun hu => ⟨i + 1, by omega, ?_, by omega⟩⟩
    · have hge : ¬ 2 * R + b < L25 := by
        intro hlt; rw [if_pos hlt] at hu; cases hu
      have : (2 * R + b) % L25 = 2 * R + b - L25 := by
        have h1 := Int.add_mul_emod_self_left (2 * R + b - L25) L25 1
        rw [Int.mul_one, Int.sub_add_cancel] at h1
        rw [h1]
        exact Int.emod_eq_of_lt (by omega) (by omega)
      rw [hsm, this]
      congr 1
      omega
    · have hlt : 2 * R + b < L25 := by
        apply Classical.byContradiction
        intro hge; rw [if_neg hge] at hu; cases hu
      have : (2 * R + b) % L25 = 2 * R + b := Int.emod_eq_of_lt (by omega) hlt
      rw [hsm, this, htl]
      congr 1
      omega
  · have : i = 512 := by omega
    subst this
    refine ⟨trivial, ?_⟩
    rw [← e]
    simp

abbrev leftC : List SV → T SV := ct [i8] (fun | [.l a] => U64 a | _ => False) [i4] (fun | [.l a] => [.l (toL 4 (val a % L25))] | _ => [])
theorem fn64 : FnOk Tryd.prog GS 64 leftC := by
  refine fnOk_lp cxL_ok gS Tryd.func64 (c := body Tryd.f64) (by kernel_rfl) (enters_of Tryd.func64 (by kernel_rfl) (by kernel_rfl)) (fuel := 100) ?_
  intro xs hfit hp
  obtain ⟨n, rfl, hn⟩ := fit_l1 hfit
  have un : U64 n := hp
  have rn := val8_range un hn
  refine ⟨blL n (toL 4 (val n % L25)), ?_, fit_i4 _, ?_⟩
  · intro Γ hG h0 hg hz
    refine blocksIn_of _ fun id f hf b hb => ?_
    have hid : id = 0 := by
      simp only [blL] at hf
      split at hf
      · rename_i h; exact Nat.eq_of_beq_eq_true h
      · cases hf
    subst hid
    have hbl : blksL (body Tryd.f64) 0 = [.loop bodyL] := by kernel_rfl
    rw [hbl] at hb
    have hb := List.mem_singleton.1 hb
    subst hb
    have hf : loopF ksL (invL n 511 [0, 0, 0, 0]) (outL n (toL 4 (val n % L25))) = f := by
      simpa [blL] using hf
    subst hf
    have e0 : invL n 511 [0, 0, 0, 0] = InvL n 0 := by
      unfold InvL
      rw [show val n / 2 ^ (512 - 0) = 0 from Int.ediv_eq_zero_of_lt rn.1 rn.2]
      rfl
    rw [e0]
    exact loop_rule (hG ▸ cxL_ok) hg h0 (drawS_sound (hG ▸ cxL_ok) hg h0) (bl := no) (blocksIn_none _) (InvL n) (fun i => 512 - i) (fun i => i ≤ 512) _ 100 ksL jsL (by rw [hz]; exact Nat.zero_le _) (by rw [hz]; exact Nat.zero_le _)
      (roundL_good n un hn) 0 (Nat.zero_le _)
  · rw [run64]
    simp only [T.good]
    exact ⟨trivial, rfl⟩
end Go.Proofs.YtdmphnfpcblfnaaDoor
