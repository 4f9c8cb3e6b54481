import Derived.Test.YtdmphnfpcblfnaaDoorSxSpec
/- The symbolic layer: contracts with a premise, from plain arguments to plain results. -/
namespace Go.Sx

def outV : List AK → List AV → SV
  | [k], [a] => can1 k a
  | ks, as => .tup (can ks as)

def ctF (pre : List AV → Prop) (ks : List AK) (res : List AV → List AV) (as : List AV) : T SV := .need (pre as) (.ret (outV ks (res as)))
def ct (ks : List AK) (pre : List AV → Prop) (ks' : List AK) (res : List AV → List AV) : List SV → T SV := spG ks (ctF pre ks' res)

theorem can1_ids (k : AK) (a : AV) (p : Nat → Prop) : (can1 k a).ids p := by
  cases k <;> cases a <;> simp [can1, SV.ids, partsOf_ids]
theorem can_ids : ∀ (ks : List AK) (as : List AV) (p : Nat → Prop), idsL p (can ks as)
  | [], _, p => by simp [can, idsL]
  | _ :: _, [], p => by simp [can, idsL]
  | k :: ks, a :: as, p => by simp [can, idsL, can1_ids, can_ids ks as p]
theorem outV_ids (ks : List AK) (as : List AV) (p : Nat → Prop) : (outV ks as).ids p := by
  unfold outV
  split
  · exact can1_ids _ _ _
  · simp only [SV.ids]; exact can_ids _ _ _

theorem can_closed : ∀ {ks : List AK} {as : List AV}, fit ks as → ∀ v ∈ can ks as, Closed v
  | [], _, _, v, hv => by simp [can] at hv
  | _ :: _, [], _, v, hv => by simp [can] at hv
  | k :: ks, a :: as, h, v, hv => by
    simp only [can, List.mem_cons] at hv
    rcases hv with rfl | hv
    · exact can1_closed h.1
    · exact can_closed h.2 v hv
theorem outV_closed {ks : List AK} {as : List AV} (h : fit ks as) : Closed (outV ks as) := by
  unfold outV
  split
  · exact can1_closed h.1
  · exact closed_tup (can_closed h)

/-- **A function's contract, by its run.** -/
theorem fnOk_ct {P : Program} {G : World → Prop} {cx : Cx} (hc : CxOk P G cx) {gm : Mem} (hgm : GlobIs G gm) {g : FuncId} {fn : Func} {c : Code} (hf : P.funcs[g]? = some fn) (hb : fn.body = some c) (hent : ∀ args w, (callFunc g args).run P w = .ok (.enter g args) w)
    {bl : Blocks} {fuel : Nat} {ks : List AK} {pre : List AV → Prop} {ks' : List AK} {res : List AV → List AV}
    (hbl : ∀ Γ : Gam, Γ.G = G → Γ.G Γ.w0 → GlobOk Γ → Γ.n0 = 0 → BlocksIn P Γ bl c)
    (h : ∀ as, fit ks as → pre as → fit ks' (res as) ∧ (runX cx bl fuel fn c (can ks as) gm).good fun u => u = outV ks' (res as)) : FnOk P G g (ct ks pre ks' res) := by
  refine fnOk_of hc hgm hf hb hent (bl := bl) (fuel := fuel) (fun as v hr p => ?_) hbl fun as v hfit hr => ?_
  · simp only [ctF, T.reach_need, T.reach_ret] at hr
    obtain ⟨-, rfl⟩ := hr
    exact outV_ids _ _ _
  · simp only [ctF, T.reach_need, T.reach_ret] at hr
    obtain ⟨hp, rfl⟩ := hr
    obtain ⟨h1, h2⟩ := h as hfit hp
    exact ⟨outV_closed h1, h2⟩

theorem len8 {l : List Int} (h : l.length = 8) : ∃ a b c d e f g i, l = [a, b, c, d, e, f, g, i] := by
  match l, h with
  | [a, b, c, d, e, f, g, i], _ => exact ⟨a, b, c, d, e, f, g, i, rfl⟩

theorem toL4_fit (n : Int) : (toL 4 n).length = 4 := toL_length 4 n
theorem u64_4 {a b c d : Int} : U64 [a, b, c, d] ↔ (0 ≤ a ∧ a < 18446744073709551616) ∧ (0 ≤ b ∧ b < 18446744073709551616) ∧ (0 ≤ c ∧ c < 18446744073709551616) ∧ (0 ≤ d ∧ d < 18446744073709551616) := by
  simp [U64]

theorem ite_eq_of_iff {p q : Prop} [Decidable p] [Decidable q] (h : p ↔ q) {x y : Int} : (if p then x else y) = if q then x else y := by
  by_cases hp : p
  · rw [if_pos hp, if_pos (h.1 hp)]
  · rw [if_neg hp, if_neg (fun hq => hp (h.2 hq))]

/-- Differences, with what lacks. -/
def subL : List Int → List Int → Int → List Int × Int
  | a :: as, b :: bs, c => ((a - b - c) % 18446744073709551616 :: (subL as bs (if a < b + c then 1 else 0)).1, (subL as bs (if a < b + c then 1 else 0)).2)
  | _, _, c => ([], c)

theorem subL_eq : ∀ (k : Nat) (a b : List Int) (c : Int), a.length = k → b.length = k → U64 a → U64 b → 0 ≤ c → c ≤ 1 → subL a b c = (toL k (val a - val b - c), if val a < val b + c then 1 else 0)
  | 0, a, b, c, ha, hb, _, _, h0, h1 => by
    have : a = [] := by cases a <;> simp_all
    subst this
    have : b = [] := by cases b <;> simp_all
    subst this
    have : c = 0 ∨ c = 1 := by omega
    rcases this with rfl | rfl <;> rfl
  | k + 1, a :: as, b :: bs, c, ha, hb, ua, ub, h0, h1 => by
    obtain ⟨⟨a0, a1⟩, ua⟩ := U64.cons.1 ua
    obtain ⟨⟨b0, b1⟩, ub⟩ := U64.cons.1 ub
    have ih := subL_eq k as bs (if a < b + c then 1 else 0) (by simpa using ha) (by simpa using hb) ua ub (by split <;> omega) (by split <;> omega)
    have e1 : (a + 18446744073709551616 * val as - (b + 18446744073709551616 * val bs) - c) % 18446744073709551616 = (a - b - c) % 18446744073709551616 := by omega
    have e2 : (a + 18446744073709551616 * val as - (b + 18446744073709551616 * val bs) - c) / 18446744073709551616 = val as - val bs - (if a < b + c then 1 else 0) := by split <;> omega
    simp only [subL, ih]
    refine Prod.ext ?_ ?_
    · simp only [toL, val]
      rw [e1, e2]
    · refine ite_eq_of_iff ?_
      simp only [val]
      split <;> omega
end Go.Sx
