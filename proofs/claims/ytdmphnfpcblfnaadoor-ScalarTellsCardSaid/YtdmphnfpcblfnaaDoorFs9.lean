import Derived.Test.YtdmphnfpcblfnaaDoorFs8
namespace Go.Proofs.YtdmphnfpcblfnaaDoor
open Go Go.Sx
set_option maxRecDepth 100000

def invT (a : List Int) (k : List Int → T SV) : T SV := .need (U64 a) (k (toL 4 (val a ^ 57896044618658097711785492504343953926634992332820282019728792003956564819947 % P25)))
def sameT (a b : List Int) (k : Bool → T SV) : T SV := .need (U64 a ∧ U64 b) (k (decide (val a % P25 = val b % P25)))
def oddT (a : List Int) (k : Bool → T SV) : T SV := .need (U64 a) (k (decide (val a % P25 % 2 = 1)))

def restT (u v r : List Int) : T SV :=
  mul2T r r fun rr => mul2T v rr fun w => sameT w u fun b =>
    .ite (!b) (.ret (.tup [.ints .u64 4 [0, 0, 0, 0], .ff])) (oddT r fun o => .ite o (neg1T r fun r => .ret (.tup [.ints .u64 4 r, .tt])) (.ret (.tup [.ints .u64 4 r, .tt])))
def rootT (u v : List Int) : T SV :=
  invT v fun i => mul2T u i fun q => powT q eighthL fun r =>
  mul2T r r fun rr => mul2T v rr fun w => sameT w u fun b =>
    .ite (!b) (.need True (powT [2, 0, 0, 0] quarterL fun s => mul2T r s fun r => restT u v r)) (restT u v r)
theorem run31 (u v : List Int) : runX (cxF [(18, mulC), (33, invC), (60, powC), (27, sameC), (29, oddC), (20, negC), (26, smallC)]) no 100 Tryd.f31 (body Tryd.f31) (can l2 [.l u, .l v]) gmF = rootT u v := by kernel_rfl
/-- The even root, by numbers. -/
def chkP (U V r : Int) : Prop := V * (r * r % P25) % P25 % P25 = U % P25
instance (U V r : Int) : Decidable (chkP U V r) := by unfold chkP; infer_instance
def endP (U V r : Int) : Int × Bool := if chkP U V r then (if r % P25 % 2 = 1 then ((-r) % P25, true) else (r, true)) else (0, false)
def qP (U V : Int) : Int := (U * (V ^ 57896044618658097711785492504343953926634992332820282019728792003956564819947 % P25) % P25) ^ (val eighthL).toNat % P25
def rootP (U V : Int) : Int × Bool := if chkP U V (qP U V) then endP U V (qP U V) else endP U V (qP U V * (val [2, 0, 0, 0] ^ (val quarterL).toNat % P25) % P25)

abbrev rootC : List SV → T SV := ct l2 (fun | [.l a, .l b] => U64 a ∧ U64 b | _ => False) [i4, .bool] (fun | [.l a, .l b] => [.l (toL 4 (rootP (val a) (val b)).1), .b (rootP (val a) (val b)).2] | _ => [])

theorem restT_good (u v : List Int) (r : Int) (uu : U64 u) (uv : U64 v) : (restT u v (toL 4 (r % P25))).good fun w => ∀ ρ, w.den ρ = (outV [i4, .bool] [.l (toL 4 (endP (val u) (val v) (r % P25)).1), .b (endP (val u) (val v) (r % P25)).2]).den ρ := by
  have ut : ∀ x, U64 (toL 4 x) := fun x => toL_u64 4 x
  unfold restT mul2T sameT oddT neg1T
  simp only [T.good]
  refine ⟨⟨ut _, ut _⟩, ⟨uv, ut _⟩, ⟨ut _, uu⟩, fun h => ?_, fun h => ⟨ut _, fun ho => ⟨ut _, ?_⟩, fun ho => ?_⟩⟩
  all_goals simp only [val_toLP] at h
  · have hc : ¬ chkP (val u) (val v) (r % P25) := by
      simp only [Bool.not_eq_true', decide_eq_false_iff_not] at h; exact h
    intro ρ
    simp only [endP, if_neg hc]
    rfl
  · have hc : chkP (val u) (val v) (r % P25) := by
      simp only [Bool.not_eq_false', decide_eq_true_eq] at h; exact h
    simp only [val_toLP, decide_eq_true_eq] at ho
    intro ρ
    simp only [endP, if_pos hc, if_pos ho, val_toLP]
    rfl
  · have hc : chkP (val u) (val v) (r % P25) := by
      simp only [Bool.not_eq_false', decide_eq_true_eq] at h; exact h
    simp only [val_toLP, decide_eq_false_iff_not] at ho
    intro ρ
    simp only [endP, if_pos hc, if_neg ho]
    rfl

theorem fn31 : FnOk Tryd.prog GF 31 rootC := by
  refine fnOk_den (cxF_ok (fns := [(18, mulC), (33, invC), (60, powC), (27, sameC), (29, oddC), (20, negC), (26, smallC)]) ⟨fn18, fn33, fn60, fn27, fn29, fn20, fn26, trivial⟩) gF Tryd.func31 (c := body Tryd.f31) (by kernel_rfl) (enters_of Tryd.func31 (by kernel_rfl) (by kernel_rfl)) (fuel := 100) ?_
  intro xs hfit hp
  obtain ⟨u, v, rfl, hu, hv⟩ := fit_l2 hfit
  obtain ⟨uu, uv⟩ := hp
  have ut : ∀ x, U64 (toL 4 x) := fun x => toL_u64 4 x
  refine ⟨no, noBl, by simp [fit, fit1, toL_length], ?_⟩
  rw [run31]
  unfold rootT invT mul2T powT sameT
  simp only [T.good]
  refine ⟨uv, ⟨uu, ut _⟩, ⟨ut _, u64_4.2 (by decide)⟩, ⟨ut _, ut _⟩, ⟨uv, ut _⟩, ⟨ut _, uu⟩, fun h => ⟨trivial, ⟨u64_4.2 (by decide), u64_4.2 (by decide)⟩, ⟨ut _, ut _⟩, ?_⟩, fun h => ?_⟩
  · simp only [val_toLP, Bool.not_eq_true', decide_eq_false_iff_not] at h
    have hc : ¬ chkP (val u) (val v) (qP (val u) (val v)) := h
    simp only [rootP, if_neg hc]
    simp only [val_toLP]
    exact restT_good u v (qP (val u) (val v) * (val [2, 0, 0, 0] ^ (val quarterL).toNat % P25)) uu uv
  · simp only [val_toLP, Bool.not_eq_false', decide_eq_true_eq] at h
    have hc : chkP (val u) (val v) (qP (val u) (val v)) := h
    simp only [rootP, if_pos hc]
    simp only [val_toLP]
    exact restT_good u v _ uu uv
end Go.Proofs.YtdmphnfpcblfnaaDoor
