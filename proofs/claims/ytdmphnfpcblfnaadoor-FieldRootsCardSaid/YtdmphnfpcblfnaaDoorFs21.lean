import Derived.Test.YtdmphnfpcblfnaaDoorFs20
/- The document's answer for the field: powers, inverses, roots. -/
namespace Go.Proofs.YtdmphnfpcblfnaaDoor
open Go Go.Sx
set_option maxRecDepth 100000

def ksR : Fg := ⟨[.keep, .keep, .keep, .keep, .keep, .keep, .soft] ++ List.replicate 22 .junk, 4, 7⟩
def jsR : Fg := ⟨[.keep, .keep, .keep, .keep, .keep, .keep, .junk] ++ List.replicate 22 .junk, 4, 7⟩
def memR (a n out : List Int) : Mem := [(0, .st true [.ints .u64 4 a]), (1, .st true [.ints .u64 4 n]), (2, .st true [.ints .u64 4 [0, 0, 0, 0]]), (4, .st true [.ints .u64 4 out])]
def invR (a n : List Int) (i : Int) (out : List Int) : St := ⟨[.ints .u64 4 a, .ints .u64 4 n, ptr0 0, ptr0 1, ptr0 2, ptr0 4, .int .i64 i] ++ junks 7 22, memR a n out, 7⟩
def outR (a n out : List Int) : St := ⟨[.ints .u64 4 a, .ints .u64 4 n, ptr0 0, ptr0 1, ptr0 2, ptr0 4] ++ junks 6 23, memR a n out, 7⟩
noncomputable def bodyR : Code := unloop (Code.blk (body Tryd.f61) 0)
noncomputable abbrev cxR : Cx := cxF [(19, mulC)]
theorem roundR (a n out : List Int) (i : Int) : endOf ksR jsR (exec cxR (drawS cxR) no 100 bodyR (invR a n i out)) =
  .ite (decide (i ≥ 0)) (.need (U64 out ∧ U64 out) (.need (0 ≤ IntKind.i64.wrap (i.tdiv 64) ∧ IntKind.i64.wrap (i.tdiv 64) < 4) (.need ((IntKind.i64.wrap (i.tdiv 64)).toNat + 1 ≤ 4) (.need (0 ≤ IntKind.u64.wrap (i.tmod 64))
      (.ite ((shrI .u64 (n.getD (IntKind.i64.wrap (i.tdiv 64)).toNat 0) (IntKind.u64.wrap (i.tmod 64))).tmod 2 == 1)
        (.need (U64 (toL 4 (val out * val out % P25)) ∧ U64 a) (.ret (.normal, invR a n (IntKind.i64.wrap (i - 1)) (toL 4 (val (toL 4 (val out * val out % P25)) * val a % P25)))))
        (.ret (.normal, invR a n (IntKind.i64.wrap (i - 1)) (toL 4 (val out * val out % P25)))))))))
  (.ret (.exit 0, outR a n out)) := by kernel_rfl
noncomputable def blR (a n out : List Int) : Blocks := fun i => match Nat.beq i 0 with
  | true => some (loopF ksR (invR a n 255 [1, 0, 0, 0]) (outR a n out))
  | false => none
theorem run61 (a n out : List Int) : runX cxR (blR a n out) 100 Tryd.f61 (body Tryd.f61) (can l2 [.l a, .l n]) gmT =
  .need (invR a n 255 [1, 0, 0, 0] = invR a n 255 [1, 0, 0, 0]) (.ret (.ints .u64 4 out)) := by kernel_rfl
noncomputable def InvR (a n : List Int) (i : Nat) : St := invR a n (255 - i) (toL 4 (val a ^ (val n / 2 ^ (256 - i)).toNat % P25))

theorem roundR_good (a n : List Int) (ua : U64 a) (un : U64 n) (_ : a.length = 4) (hn : n.length = 4) (i : Nat) (hi : i ≤ 256) : (endOf ksR jsR (exec cxR (drawS cxR) no 100 bodyR (InvR a n i))).good fun r => match r.1 with
      | .normal => ∃ i', i' ≤ 256 ∧ r.2 = InvR a n i' ∧ 256 - i' < 256 - i
      | .exit j => j = 0 ∧ r.2 = outR a n (toL 4 (val a ^ (val n).toNat % P25))
      | .ret => False := by
  have rn := val4_range un hn
  unfold InvR
  rw [roundR]
  simp only [T.good, decide_eq_true_eq, decide_eq_false_iff_not, ge_iff_le]
  refine ⟨fun hlt => ?_, fun hlt => ?_⟩
  · have hi' : i < 256 := by omega
    rw [wrap_i64 ((255 - (i : Int)).tdiv 64) (by rw [Int.tdiv_eq_ediv_of_nonneg (by omega)]; omega), wrap_i64 (255 - (i : Int) - 1) (by omega),
      Int.tdiv_eq_ediv_of_nonneg (by omega), Int.tmod_eq_emod_of_nonneg (by omega), wrap_u64, Int.emod_eq_of_lt (a := (255 - (i : Int)) % 64) (by omega) (by omega)]
    have hq : ((255 - (i : Int)) / 64).toNat = (255 - i) / 64 := by omega
    have hr : (255 - (i : Int)) % 64 = (((255 - i) % 64 : Nat) : Int) := by omega
    have hs : 64 * ((255 - i) / 64) + (255 - i) % 64 = 255 - i := by omega
    have hd := digit_bit n ((255 - i) / 64) ((255 - i) % 64) un (by omega)
    rw [hs] at hd
    refine ⟨⟨toL_u64 _ _, toL_u64 _ _⟩, by omega, by omega, by omega, ?_⟩
    have hg' := U64.getD un ((255 - i) / 64)
    have hdiv : 0 ≤ n.getD ((255 - i) / 64) 0 / 2 ^ ((255 - i) % 64) := Int.ediv_nonneg hg'.1 (Int.le_of_lt (Int.pow_pos (by decide)))
    rw [hq, hr, shrI_u64 _ _ (by omega), Int.tmod_eq_emod_of_nonneg hdiv, ← hd]
    have ei : (255 : Int) - i - 1 = 255 - ((i + 1 : Nat) : Int) := by omega
    rw [ei]
    simp only [val_toLP, pow_mul_mod, pow_mul_mod1, beq_iff_eq, beq_eq_false_iff_ne, ne_eq]
    refine ⟨fun hb => ⟨⟨toL_u64 _ _, ua⟩, i + 1, by omega, ?_, by omega⟩, fun hb => ⟨i + 1, by omega, ?_, by omega⟩⟩
    · rw [pow_step (val a) (val n) i rn.1 hi' 1 hb]; rfl
    · rw [pow_step (val a) (val n) i rn.1 hi' 0 (by omega)]; rfl
  · have : i = 256 := by omega
    subst this
    refine ⟨trivial, ?_⟩
    simp

theorem cxR_ok : CxOk Tryd.prog GT cxR := cxT_ok (fns := [(19, mulC)]) ⟨fn19T, trivial⟩
theorem fn61 : FnOk Tryd.prog GT 61 powC := by
  refine fnOk_lp cxR_ok gT Tryd.func61 (c := body Tryd.f61) (by kernel_rfl) (enters_of Tryd.func61 (by kernel_rfl) (by kernel_rfl)) (fuel := 100) ?_
  intro xs hfit hp
  obtain ⟨a, n, rfl, ha, hn⟩ := fit_l2 hfit
  obtain ⟨ua, un⟩ := hp
  have rn := val4_range un hn
  refine ⟨blR a n (toL 4 (val a ^ (val n).toNat % P25)), ?_, fit_i4 _, ?_⟩
  · intro Γ hG h0 hg hz
    refine blocksIn_of _ fun id f hf b hb => ?_
    have hid : id = 0 := by
      simp only [blR] at hf
      split at hf
      · rename_i h; exact Nat.eq_of_beq_eq_true h
      · cases hf
    subst hid
    have hbl : blksL (body Tryd.f61) 0 = [.loop bodyR] := by kernel_rfl
    rw [hbl] at hb
    have hb := List.mem_singleton.1 hb
    subst hb
    have hf : loopF ksR (invR a n 255 [1, 0, 0, 0]) (outR a n (toL 4 (val a ^ (val n).toNat % P25))) = f := by
      simpa [blR] using hf
    subst hf
    have e0 : invR a n 255 [1, 0, 0, 0] = InvR a n 0 := by
      unfold InvR
      rw [show val n / 2 ^ (256 - 0) = 0 from Int.ediv_eq_zero_of_lt rn.1 rn.2, show Int.toNat 0 = 0 from rfl, Int.pow_zero]
      rfl
    rw [e0]
    exact loop_rule (hG ▸ cxR_ok) hg h0 (drawS_sound (hG ▸ cxR_ok) hg h0) (bl := no) (blocksIn_none _) (InvR a n) (fun i => 256 - i) (fun i => i ≤ 256) _ 100 ksR jsR (by rw [hz]; exact Nat.zero_le _) (by rw [hz]; exact Nat.zero_le _)
      (roundR_good a n ua un ha hn) 0 (Nat.zero_le _)
  · rw [run61]
    simp only [T.good]
    exact ⟨trivial, rfl⟩

theorem run34 (a : List Int) : runX (cxF [(59, primeC), (58, takeC), (61, powC)]) no 100 Tryd.f34 (body Tryd.f34) (can l1 [.l a]) gmT = .need True (takeT primeL [2, 0, 0, 0] fun e => powT a e fun r => l11 r) := by kernel_rfl
theorem fn34 : FnOk Tryd.prog GT 34 invC := by
  refine fnOk_gd (cxT_ok (fns := [(59, primeC), (58, takeC), (61, powC)]) ⟨fn59, fn58, fn61, trivial⟩) gT Tryd.func34 (c := body Tryd.f34) (by kernel_rfl) (enters_of Tryd.func34 (by kernel_rfl) (by kernel_rfl)) (fuel := 100) ?_
  intro xs hfit hp
  obtain ⟨a, rfl, ha⟩ := fit_l1 hfit
  have ua : U64 a := hp
  have e : (val (toL 4 (val primeL - val [2, 0, 0, 0]))).toNat = 57896044618658097711785492504343953926634992332820282019728792003956564819947 := by decide
  refine ⟨no, noBlT, fit_i4 _, Gd.of_eq (run34 a) ⟨⟨trivial, ⟨uPrime, u64_4.2 (by decide)⟩, ⟨ua, ut4 _⟩, fun ρ => ?_⟩⟩⟩
  rw [e]
  rfl

def rrootT (u v : List Int) : T SV :=
  invT v fun i => mul2T u i fun q => powT q eighthL fun x => powT [2, 0, 0, 0] quarterL fun s =>
  mul2T x x fun xx => mul2T v xx fun w => sameT w u fun b =>
    .ite b (oddT x fun o => .ite o (neg1T x fun r => .ret (.tup [.ints .u64 4 r, .tt])) (belT x fun r => .ret (.tup [.ints .u64 4 r, .tt])))
      (mul2T x s fun x => mul2T x x fun xx => mul2T v xx fun w => sameT w u fun b =>
        .ite b (oddT x fun o => .ite o (neg1T x fun r => .ret (.tup [.ints .u64 4 r, .tt])) (belT x fun r => .ret (.tup [.ints .u64 4 r, .tt])))
          (mul2T x s fun _ => .ret (.tup [.ints .u64 4 [0, 0, 0, 0], .ff])))
noncomputable abbrev fns32 : List (Nat × (List SV → T SV)) := [(19, mulC), (34, invC), (61, powC), (28, sameC), (30, oddC), (21, negC), (53, belowC)]
theorem run32 (u v : List Int) : runX (cxF fns32) no 100 Tryd.f32 (body Tryd.f32) (can l2 [.l u, .l v]) gmT = rrootT u v := by kernel_rfl

abbrev Qr (U V r : Int) (w : SV) : Prop := ∀ ρ, w.den ρ = (outV [i4, .bool] [.l (toL 4 (endP U V r).1), .b (endP U V r).2]).den ρ
theorem rend_good (u v : List Int) (r : Int) (hr : r = r % P25) (hc : chkP (val u) (val v) r) :
    (oddT (toL 4 r) fun o => .ite o (neg1T (toL 4 r) fun r => .ret (.tup [.ints .u64 4 r, .tt])) (belT (toL 4 r) fun r => .ret (.tup [.ints .u64 4 r, .tt]))).good (Qr (val u) (val v) r) := by
  have hv : val (toL 4 r) = r := by rw [hr, val_toLP]
  simp only [oddT, neg1T, belT, T.good, hv]
  refine ⟨ut4 _, fun ho => ⟨ut4 _, fun ρ => ?_⟩, fun ho => ⟨ut4 _, fun ρ => ?_⟩⟩
  · simp only [endP, if_pos hc, if_pos (of_decide_eq_true ho)]
    rfl
  · simp only [endP, if_pos hc, if_neg (of_decide_eq_false ho)]
    rw [← hr]
    rfl

theorem fns32_ok : FnsOk Tryd.prog GT fns32 := ⟨fn19T, fn34, fn61, fn28, fn30, fn21, fn53, trivial⟩
theorem fn32 : FnOk Tryd.prog GT 32 rootC := by
  refine fnOk_gd (cxT_ok fns32_ok) gT Tryd.func32 (c := body Tryd.f32) (by kernel_rfl) (enters_of Tryd.func32 (by kernel_rfl) (by kernel_rfl)) (fuel := 100) ?_
  intro xs hfit hp
  obtain ⟨u, v, rfl, hu, hv⟩ := fit_l2 hfit
  obtain ⟨uu, uv⟩ := hp
  refine ⟨no, noBlT, by simp [fit, fit1, toL_length], Gd.of_eq (run32 u v) ⟨?_⟩⟩
  have e1 : ∀ r : Int, decide (val (toL 4 (val v * val (toL 4 (r * r % P25)) % P25)) % P25 = val u % P25) = decide (chkP (val u) (val v) r) := fun r => by
    rw [val_toLP, val_toLP]; rfl
  have vq : val (toL 4 (qP (val u) (val v))) = qP (val u) (val v) := by unfold qP; rw [val_toLP]
  have hq : qP (val u) (val v) = qP (val u) (val v) % P25 := by unfold qP; rw [Int.emod_emod_of_dvd _ (Int.dvd_refl P25)]
  unfold rrootT invT
  refine ⟨uv, ⟨uu, ut4 _⟩, ⟨ut4 _, u64_4.2 (by decide)⟩, ⟨u64_4.2 (by decide), u64_4.2 (by decide)⟩, ?_⟩
  simp only [val_toLP]
  rw [show (val u * (val v ^ 57896044618658097711785492504343953926634992332820282019728792003956564819947 % P25) % P25) ^ (val eighthL).toNat % P25 = qP (val u) (val v) from rfl]
  simp only [mul2T, sameT, T.good, vq]
  rw [e1]
  refine ⟨⟨ut4 _, ut4 _⟩, ⟨uv, ut4 _⟩, ⟨ut4 _, uu⟩, fun hc => ?_, fun hc => ⟨⟨ut4 _, ut4 _⟩, ⟨ut4 _, ut4 _⟩, ⟨uv, ut4 _⟩, ⟨ut4 _, uu⟩, ?_⟩⟩
  · have hc := of_decide_eq_true hc
    simp only [rootP, if_pos hc]
    exact rend_good u v _ hq hc
  · have hc := of_decide_eq_false hc
    simp only [rootP, if_neg hc]
    have hs : val (toL 4 (val [2, 0, 0, 0] ^ (val quarterL).toNat % P25)) = val [2, 0, 0, 0] ^ (val quarterL).toNat % P25 := val_toLP _
    rw [hs, val_toLP (qP (val u) (val v) * (val [2, 0, 0, 0] ^ (val quarterL).toNat % P25)), e1]
    refine ⟨fun hc2 => ?_, fun hc2 => ⟨⟨ut4 _, ut4 _⟩, fun ρ => ?_⟩⟩
    · exact rend_good u v _ (by rw [Int.emod_emod_of_dvd _ (Int.dvd_refl P25)]) (of_decide_eq_true hc2)
    · simp only [endP, if_neg (of_decide_eq_false hc2)]
      rfl
end Go.Proofs.YtdmphnfpcblfnaaDoor
