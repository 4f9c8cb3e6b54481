import Derived.Test.YtdmphnfpcblfnaaDoorFs5
import Derived.Test.YtdmphnfpcblfnaaDoorSxLp
namespace Go.Proofs.YtdmphnfpcblfnaaDoor
open Go Go.Sx
set_option maxRecDepth 100000

def Code.blk : Code → Nat → Option Code
  | .seq a b, i => match Code.blk a i with
    | some c => some c
    | none => Code.blk b i
  | .cond _ a b, i => match Code.blk a i with
    | some c => some c
    | none => Code.blk b i
  | .block j b, i => match Nat.beq j i with
    | true => some b
    | false => Code.blk b i
  | .loop b, i => Code.blk b i
  | .scope b, i => Code.blk b i
  | _, _ => none
def unloop : Option Code → Code
  | some (.loop b) => b
  | _ => .skip

def ptr0 (i : Nat) : SV := .ptr i 0 (.lit 0)
def junks : Nat → Nat → List SV
  | _, 0 => []
  | i, n + 1 => .junk i :: junks (i + 1) n
def ksP : Fg := ⟨[.keep, .keep, .keep, .keep, .keep, .keep, .junk, .junk, .junk, .soft] ++ List.replicate 21 .junk, 8, 7⟩
def invP (a n : List Int) (i : Int) (out : List Int) : St :=
  ⟨[.ints .u64 4 a, .ints .u64 4 n, ptr0 0, ptr0 1, ptr0 2, ptr0 4, .junk 6, .junk 7, .junk 8, .int .i64 i] ++ junks 10 21,
   gmF ++ [(0, .st true [.ints .u64 4 a]), (1, .st true [.ints .u64 4 n]), (2, .st true [.ints .u64 4 [0, 0, 0, 0]]), (4, .st true [.ints .u64 4 out])], 7⟩
noncomputable def bodyP : Code := unloop (Code.blk (body Tryd.f60) 0)
def jsP : Fg := ⟨[.keep, .keep, .keep, .keep, .keep, .keep, .junk, .junk, .junk, .junk] ++ List.replicate 21 .junk, 8, 7⟩
def outP (a n out : List Int) : St :=
  ⟨[.ints .u64 4 a, .ints .u64 4 n, ptr0 0, ptr0 1, ptr0 2, ptr0 4] ++ junks 6 25,
   gmF ++ [(0, .st true [.ints .u64 4 a]), (1, .st true [.ints .u64 4 n]), (2, .st true [.ints .u64 4 [0, 0, 0, 0]]), (4, .st true [.ints .u64 4 out])], 7⟩

noncomputable abbrev cxP : Cx := cxF [(18, mulC), (26, smallC)]

theorem roundP (a n out : List Int) (i : Int) : endOf ksP jsP (exec cxP (drawS cxP) no 100 bodyP (invP a n i out)) =
  .ite (decide (i < 256)) (.need (U64 out ∧ U64 out) (.need (0 ≤ IntKind.i64.wrap ((IntKind.i64.wrap (255 - i)).tdiv 64) ∧ IntKind.i64.wrap ((IntKind.i64.wrap (255 - i)).tdiv 64) < 4)
    (.need ((IntKind.i64.wrap ((IntKind.i64.wrap (255 - i)).tdiv 64)).toNat + 1 ≤ 4) (.need (0 ≤ (IntKind.i64.wrap (255 - i)).tmod 64)
      (.ite (bitsI .and .u64 (shrI .u64 (n.getD (IntKind.i64.wrap ((IntKind.i64.wrap (255 - i)).tdiv 64)).toNat 0) ((IntKind.i64.wrap (255 - i)).tmod 64)) 1 == 1)
        (.need (U64 (toL 4 (val out * val out % P25)) ∧ U64 a) (.ret (.normal, invP a n (IntKind.i64.wrap (i + 1)) (toL 4 (val (toL 4 (val out * val out % P25)) * val a % P25)))))
        (.ret (.normal, invP a n (IntKind.i64.wrap (i + 1)) (toL 4 (val out * val out % P25)))))))))
  (.ret (.exit 0, outP a n out)) := by kernel_rfl

noncomputable def blP (a n out : List Int) : Blocks := fun i => match Nat.beq i 0 with
  | true => some (loopF ksP (invP a n 0 [1, 0, 0, 0]) (outP a n out))
  | false => none
theorem run60 (a n out : List Int) : runX cxP (blP a n out) 100 Tryd.f60 (body Tryd.f60) (can l2 [.l a, .l n]) gmF =
  .need True (.need (invP a n 0 [1, 0, 0, 0] = invP a n 0 [1, 0, 0, 0]) (.ret (.ints .u64 4 out))) := by kernel_rfl
abbrev powC : List SV → T SV := ct l2 (fun | [.l a, .l b] => U64 a ∧ U64 b | _ => False) [i4] (fun | [.l a, .l b] => [.l (toL 4 (val a ^ (val b).toNat % P25))] | _ => [])

/-- A bit of a number in digits. -/
theorem digit_bit : ∀ (l : List Int) (q r : Nat), U64 l → r < 64 → val l / 2 ^ (64 * q + r) % 2 = (l.getD q 0) / 2 ^ r % 2
  | [], q, r, _, _ => by simp [val]
  | x :: l, 0, r, h, hr => by
    simp only [val, Nat.mul_zero, Nat.zero_add, List.getD_cons_zero]
    have e : (18446744073709551616 : Int) * val l = (2 ^ r : Int) * (2 * (2 ^ (63 - r) * val l)) := by
      have : (2 : Int) ^ r * 2 ^ (63 - r) = 2 ^ 63 := by rw [← Int.pow_add]; congr 1; omega
      rw [← Int.mul_assoc, ← Int.mul_assoc, Int.mul_assoc (2 ^ r) 2, Int.mul_comm 2, ← Int.mul_assoc, this]
      rfl
    rw [e, Int.add_mul_ediv_left _ _ (Int.ne_of_gt (Int.pow_pos (by decide))), Int.add_mul_emod_self_left]
  | x :: l, q + 1, r, h, hr => by
    obtain ⟨hx, hl⟩ := U64.cons.1 h
    rw [List.getD_cons_succ, ← digit_bit l q r hl hr]
    have e : (2 : Int) ^ (64 * (q + 1) + r) = 18446744073709551616 * 2 ^ (64 * q + r) := by
      rw [show 64 * (q + 1) + r = 64 + (64 * q + r) by omega, Int.pow_add]; rfl
    rw [e, ← Int.ediv_ediv_of_nonneg (by decide)]
    congr 2
    simp only [val]
    omega

theorem pow_step (_ N : Int) (i : Nat) (hN : 0 ≤ N) (hi : i < 256) (b : Int) (hb : N / 2 ^ (255 - i) % 2 = b) :
    (N / 2 ^ (256 - (i + 1))).toNat = 2 * (N / 2 ^ (256 - i)).toNat + b.toNat := by
  have e : (2 : Int) ^ (256 - i) = 2 ^ (255 - i) * 2 := by rw [show 256 - i = (255 - i) + 1 by omega, Int.pow_succ]
  rw [show 256 - (i + 1) = 255 - i by omega, e, ← Int.ediv_ediv_of_nonneg (Int.le_of_lt (Int.pow_pos (by decide)))]
  have : 0 ≤ N / 2 ^ (255 - i) := Int.ediv_nonneg hN (Int.le_of_lt (Int.pow_pos (by decide)))
  omega

theorem pow_mul_mod (A : Int) (e : Nat) : (A ^ e % P25) * (A ^ e % P25) % P25 = A ^ (2 * e) % P25 := by
  rw [← Int.mul_emod, ← Int.pow_add, show e + e = 2 * e by omega]
theorem pow_mul_mod1 (A : Int) (e : Nat) : (A ^ e % P25) * A % P25 = A ^ (e + 1) % P25 := by
  rw [Int.mul_emod, Int.emod_emod_of_dvd _ (Int.dvd_refl P25), ← Int.mul_emod, Int.pow_succ]
theorem wrap_i64 (x : Int) (h : -9223372036854775808 ≤ x ∧ x < 9223372036854775808) : IntKind.i64.wrap x = x := by
  simp [IntKind.wrap, IntKind.bits, IntKind.signed]
  omega

noncomputable def InvP (a n : List Int) (i : Nat) : St := invP a n i (toL 4 (val a ^ (val n / 2 ^ (256 - i)).toNat % P25))

theorem U64.getD {l : List Int} (h : U64 l) (j : Nat) : 0 ≤ l.getD j 0 ∧ l.getD j 0 < 18446744073709551616 := by
  rw [List.getD_eq_getElem?_getD]
  cases e : l[j]? with
  | none => simp
  | some x => exact h x (List.mem_of_getElem? e)

theorem fn60 : FnOk Tryd.prog GF 60 powC := by
  have hcx := cxF_ok (fns := [(18, mulC), (26, smallC)]) ⟨fn18, fn26, trivial⟩
  refine fnOk_lp hcx gF Tryd.func60 (c := body Tryd.f60) (by kernel_rfl) (enters_of Tryd.func60 (by kernel_rfl) (by kernel_rfl)) (fuel := 100) ?_
  intro xs hfit hp
  obtain ⟨a, n, rfl, ha, hn⟩ := fit_l2 hfit
  obtain ⟨ua, un⟩ := hp
  have rn := val4_range un hn
  have out := toL 4 (val a ^ (val n).toNat % P25)
  refine ⟨blP a n (toL 4 (val a ^ (val n).toNat % P25)), ?_, fit_i4 _, ?_⟩
  · intro Γ hG h0 hg hz
    refine blocksIn_of _ fun id f hf b hb => ?_
    have hid : id = 0 := by
      simp only [blP] at hf
      split at hf
      · rename_i h; exact Nat.eq_of_beq_eq_true h
      · cases hf
    subst hid
    have hbl : blksL (body Tryd.f60) 0 = [.loop bodyP] := by kernel_rfl
    rw [hbl] at hb
    have hb := List.mem_singleton.1 hb
    subst hb
    have hf : loopF ksP (invP a n 0 [1, 0, 0, 0]) (outP a n (toL 4 (val a ^ (val n).toNat % P25))) = f := by
      simpa [blP] using hf
    subst hf
    have e0 : invP a n 0 [1, 0, 0, 0] = InvP a n 0 := by
      unfold InvP
      rw [show val n / 2 ^ (256 - 0) = 0 from Int.ediv_eq_zero_of_lt rn.1 rn.2, show Int.toNat 0 = 0 from rfl, Int.pow_zero]
      rfl
    rw [e0]
    refine loop_rule (hG ▸ hcx) hg h0 (drawS_sound (hG ▸ hcx) hg h0) (bl := no) (blocksIn_none _) (InvP a n) (fun i => 256 - i) (fun i => i ≤ 256) _ 100 ksP jsP (by rw [hz]; exact Nat.zero_le _) (by rw [hz]; exact Nat.zero_le _) ?_ 0 (Nat.zero_le _)
    intro i hi
    unfold InvP
    rw [roundP]
    simp only [T.good, decide_eq_true_eq, decide_eq_false_iff_not]
    refine ⟨fun hlt => ?_, fun hlt => ?_⟩
    · have hi' : i < 256 := by omega
      rw [wrap_i64 (255 - (i : Int)) (by omega), wrap_i64 ((255 - (i : Int)).tdiv 64) (by rw [Int.tdiv_eq_ediv_of_nonneg (by omega)]; omega), wrap_i64 ((i : Int) + 1) (by omega),
        Int.tdiv_eq_ediv_of_nonneg (by omega), Int.tmod_eq_emod_of_nonneg (by omega)]
      have hq : ((255 - (i : Int)) / 64).toNat = (255 - i) / 64 := by omega
      have hr : (255 - (i : Int)) % 64 = (((255 - i) % 64 : Nat) : Int) := by omega
      have hs : 64 * ((255 - i) / 64) + (255 - i) % 64 = 255 - i := by omega
      have hd := digit_bit n ((255 - i) / 64) ((255 - i) % 64) un (by omega)
      rw [hs] at hd
      refine ⟨⟨toL_u64 _ _, toL_u64 _ _⟩, by omega, by omega, by omega, ?_⟩
      have hg' := U64.getD un ((255 - i) / 64)
      have hdiv : 0 ≤ n.getD ((255 - i) / 64) 0 / 2 ^ ((255 - i) % 64) ∧ n.getD ((255 - i) / 64) 0 / 2 ^ ((255 - i) % 64) < 18446744073709551616 :=
        ⟨Int.ediv_nonneg hg'.1 (Int.le_of_lt (Int.pow_pos (by decide))), Int.lt_of_le_of_lt (Int.ediv_le_self _ hg'.1) hg'.2⟩
      rw [hq, hr, shrI_u64 _ _ (by omega), and1 _ hdiv, ← hd]
      simp only [val_toLP, pow_mul_mod, pow_mul_mod1, beq_iff_eq, beq_eq_false_iff_ne, ne_eq]
      refine ⟨fun hb => ⟨⟨toL_u64 _ _, ua⟩, i + 1, by omega, ?_, by omega⟩, fun hb => ⟨i + 1, by omega, ?_, by omega⟩⟩
      · rw [pow_step (val a) (val n) i rn.1 hi' 1 hb]; rfl
      · rw [pow_step (val a) (val n) i rn.1 hi' 0 (by omega)]; rfl
    · have : i = 256 := by omega
      subst this
      refine ⟨trivial, ?_⟩
      simp
  · rw [run60]
    simp only [T.good]
    exact ⟨trivial, trivial, rfl⟩
end Go.Proofs.YtdmphnfpcblfnaaDoor
