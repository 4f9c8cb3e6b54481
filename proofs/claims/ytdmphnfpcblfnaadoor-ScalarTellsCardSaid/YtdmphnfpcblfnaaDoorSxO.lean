import Derived.Test.YtdmphnfpcblfnaaDoorSxN
/- The symbolic layer, part O: contracts over plain arguments, and how they are put together. -/
namespace Go.Sx
open Go.RowKit (Below)

/-- The kinds of plain arguments, and the arguments. -/
inductive AK where
  | num (k : IntKind)
  | ints (k : IntKind) (n : Nat)
  | bool
  | agg (ps : List (IntKind × Nat))

inductive AV where
  | n (x : Int)
  | l (xs : List Int)
  | b (c : Bool)
  | a (ls : List (List Int))

def asNum (k : IntKind) (v : SV) : Option Int :=
  match numOf v with
  | some (_, k', n) => match decide (k' = k) with
    | true => some n
    | false => none
  | none => none

def asInts (k : IntKind) (n : Nat) : SV → Option (List Int)
  | .ints k' n' l => match decide (k' = k), Nat.beq n' n with
    | true, true => some l
    | _, _ => none
  | _ => none

def asParts : List (IntKind × Nat) → List SV → Option (List (List Int))
  | [], [] => some []
  | (k, n) :: ks, p :: ps => match asInts k n p, asParts ks ps with
    | some l, some ls => some (l :: ls)
    | _, _ => none
  | _, _ => none

def parse1 : AK → SV → Option AV
  | .num k, v => (asNum k v).map .n
  | .ints k n, v => (asInts k n v).map .l
  | .bool, v => (boolOf v).map .b
  | .agg ks, v => match v with
    | .agg ps => (asParts ks ps).map .a
    | _ => none

def parse : List AK → List SV → Option (List AV)
  | [], [] => some []
  | k :: ks, v :: vs => match parse1 k v, parse ks vs with
    | some a, some as => some (a :: as)
    | _, _ => none
  | _, _ => none

def partsOf : List (IntKind × Nat) → List (List Int) → List SV
  | (k, n) :: ks, l :: ls => .ints k n l :: partsOf ks ls
  | _, _ => []

def can1 : AK → AV → SV
  | .num k, .n x => .int k x
  | .ints k n, .l xs => .ints k n xs
  | .bool, .b c => .bool c
  | .agg ks, .a ls => .agg (partsOf ks ls)
  | _, _ => .raw undef

def can : List AK → List AV → List SV
  | k :: ks, a :: as => can1 k a :: can ks as
  | _, _ => []

/-- Lists are as long as their kinds say. -/
def lens : List (IntKind × Nat) → List (List Int) → Prop
  | (_, n) :: ks, l :: ls => l.length = n ∧ lens ks ls
  | [], [] => True
  | _, _ => False

def fit1 : AK → AV → Prop
  | .num _, .n _ => True
  | .ints _ n, .l xs => xs.length = n
  | .bool, .b _ => True
  | .agg ks, .a ls => lens ks ls
  | _, _ => False

def fit : List AK → List AV → Prop
  | [], [] => True
  | k :: ks, a :: as => fit1 k a ∧ fit ks as
  | _, _ => False

theorem asInts_spec {k : IntKind} {n : Nat} {v : SV} {l : List Int} (h : asInts k n v = some l) : v = .ints k n l := by
  unfold asInts at h
  split at h
  · split at h
    · rename_i h1 h2
      have h1 := of_decide_eq_true h1
      have h2 := Nat.eq_of_beq_eq_true h2
      cases h; subst h1; subst h2; rfl
    · cases h
  · cases h

theorem asParts_spec : ∀ {ks : List (IntKind × Nat)} {ps : List SV} {ls : List (List Int)}, asParts ks ps = some ls → (∀ p ∈ ps, isAtom p) → ps = partsOf ks ls ∧ lens ks ls
  | [], [], ls, h, _ => by simp [asParts] at h; subst h; simp [partsOf, lens]
  | [], _ :: _, ls, h, _ => by simp [asParts] at h
  | _ :: _, [], ls, h, _ => by simp [asParts] at h
  | (k, n) :: ks, p :: ps, ls, h, hw => by
    simp only [asParts] at h
    split at h
    · rename_i l ls' h1 h2
      cases h
      have := asInts_spec h1
      subst this
      obtain ⟨e, hl⟩ := asParts_spec h2 (fun q hq => hw q (by simp [hq]))
      have h0 := hw (.ints k n l) (by simp)
      simp only [isAtom] at h0
      exact ⟨by simp [partsOf, ← e], h0, hl⟩
    · cases h

theorem partsOf_atoms : ∀ {ks : List (IntKind × Nat)} {ls : List (List Int)}, lens ks ls → ∀ p ∈ partsOf ks ls, isAtom p
  | [], _, _, p, hp => by cases hp
  | _ :: _, [], _, p, hp => by cases hp
  | (k, n) :: ks, l :: ls, h, p, hp => by
    simp only [partsOf, List.mem_cons] at hp
    rcases hp with rfl | hp
    · simp only [isAtom]; exact h.1
    · exact partsOf_atoms h.2 p hp

theorem partsOf_den : ∀ (ks : List (IntKind × Nat)) (ls : List (List Int)) (ρ ρ' : Env), cellsL ρ (partsOf ks ls) = cellsL ρ' (partsOf ks ls)
  | [], _, _, _ => rfl
  | _ :: _, [], _, _ => rfl
  | (k, n) :: ks, l :: ls, ρ, ρ' => by simp [partsOf, cellsL, SV.den, partsOf_den ks ls ρ ρ']

theorem partsOf_ids (p : Nat → Prop) : ∀ (ks : List (IntKind × Nat)) (ls : List (List Int)), idsL p (partsOf ks ls)
  | [], _ => by simp [partsOf, idsL]
  | _ :: _, [] => by simp [partsOf, idsL]
  | (k, n) :: ks, l :: ls => by simp [partsOf, idsL, SV.ids, partsOf_ids p ks ls]

theorem closed_int (k : IntKind) (x : Int) : Closed (.int k x) := ⟨fun _ _ => by simp [SV.den], fun _ => by simp [SV.ids], by simp only [wf]⟩
theorem closed_ints {k : IntKind} {n : Nat} {l : List Int} (h : l.length = n) : Closed (.ints k n l) := ⟨fun _ _ => by simp [SV.den], fun _ => by simp [SV.ids], by simp only [wf]; exact h⟩
theorem closed_bool (b : Bool) : Closed (.bool b) := ⟨fun _ _ => by simp [SV.den], fun _ => by simp [SV.ids], by simp only [wf]⟩
theorem closed_agg {ks : List (IntKind × Nat)} {ls : List (List Int)} (h : lens ks ls) : Closed (.agg (partsOf ks ls)) :=
  ⟨fun ρ ρ' => by simp only [SV.den]; rw [partsOf_den ks ls ρ ρ'], fun p => by simp only [SV.ids]; exact partsOf_ids p ks ls, by simp only [wf]; exact atomsL_iff.2 (partsOf_atoms h)⟩
theorem closed_tup {vs : List SV} (h : ∀ v ∈ vs, Closed v) : Closed (.tup vs) :=
  ⟨fun ρ ρ' => by simp only [SV.den, denL_eq]; rw [List.map_congr_left fun v hv => (h v hv).den ρ ρ'], fun p => by simp only [SV.ids]; exact idsL_iff.2 fun v hv => (h v hv).ids p, by simp only [wf]; exact wfL_iff.2 fun v hv => (h v hv).wf⟩

theorem can1_closed {k : AK} {a : AV} (h : fit1 k a) : Closed (can1 k a) := by
  cases k <;> cases a <;> simp only [fit1] at h <;> try exact h.elim
  · exact closed_int _ _
  · exact closed_ints h
  · exact closed_bool _
  · exact closed_agg h

theorem parse1_spec {k : AK} {v : SV} {a : AV} (h : parse1 k v = some a) (hw : wf v) : fit1 k a ∧ ∀ ρ, (can1 k a).den ρ = v.den ρ := by
  cases k with
  | num k =>
    simp only [parse1, Option.map_eq_some_iff] at h
    obtain ⟨x, h, rfl⟩ := h
    unfold asNum at h
    split at h
    · rename_i b k' n hn
      split at h
      · rename_i hk
        have hk := of_decide_eq_true hk
        cases h; subst hk
        exact ⟨trivial, fun ρ => by rw [numOf_den hn]; simp [can1, SV.den]⟩
      · cases h
    · cases h
  | ints k n =>
    simp only [parse1, Option.map_eq_some_iff] at h
    obtain ⟨x, h, rfl⟩ := h
    have := asInts_spec h
    subst this
    simp only [wf] at hw
    exact ⟨hw, fun ρ => rfl⟩
  | bool =>
    simp only [parse1, Option.map_eq_some_iff] at h
    obtain ⟨x, h, rfl⟩ := h
    exact ⟨trivial, fun ρ => by rw [boolOf_den h]; simp [can1, SV.den]⟩
  | agg ks =>
    simp only [parse1] at h
    split at h
    · rename_i ps
      simp only [Option.map_eq_some_iff] at h
      obtain ⟨x, h, rfl⟩ := h
      simp only [wf] at hw
      obtain ⟨rfl, hl⟩ := asParts_spec h (atomsL_iff.1 hw)
      exact ⟨hl, fun ρ => rfl⟩
    · cases h

theorem parse_spec : ∀ {ks : List AK} {vs : List SV} {as : List AV}, parse ks vs = some as → (∀ v ∈ vs, wf v) → fit ks as ∧ (∀ ρ, denL ρ (can ks as) = denL ρ vs) ∧ ∀ x ∈ can ks as, Closed x
  | [], [], as, h, _ => by simp [parse] at h; subst h; simp [fit, can, denL]
  | [], _ :: _, as, h, _ => by simp [parse] at h
  | _ :: _, [], as, h, _ => by simp [parse] at h
  | k :: ks, v :: vs, as, h, hw => by
    simp only [parse] at h
    split at h
    · rename_i a as' h1 h2
      cases h
      obtain ⟨f1, d1⟩ := parse1_spec h1 (hw v (by simp))
      obtain ⟨f2, d2, c2⟩ := parse_spec h2 (fun u hu => hw u (by simp [hu]))
      refine ⟨⟨f1, f2⟩, fun ρ => by simp only [can, denL, d1 ρ, d2 ρ], fun x hx => ?_⟩
      simp only [can, List.mem_cons] at hx
      rcases hx with rfl | hx
      · exact can1_closed f1
      · exact c2 x hx
    · cases h

/-- A contract over plain arguments. -/
def spG (ks : List AK) (f : List AV → T SV) (args : List SV) : T SV :=
  match parse ks args with
  | some as => f as
  | none => .fail "a contract's arguments"

/-- What is owed of a contract: what it tells is closed. -/
def ClosedF (ks : List AK) (f : List AV → T SV) : Prop := ∀ as v, fit ks as → T.Reach (f as) v → Closed v

theorem spG_reach {ks : List AK} {f : List AV → T SV} {args : List SV} {v : SV} (h : T.Reach (spG ks f args) v) : ∃ as, parse ks args = some as ∧ T.Reach (f as) v := by
  unfold spG at h
  split at h
  · rename_i as ha; exact ⟨as, ha, h⟩
  · exact (T.reach_fail h).elim

structure FnOk (P : Program) (G : World → Prop) (g : FuncId) (spec : List SV → T SV) : Prop where
  closed : ∀ args v, (∀ x ∈ args, wf x) → T.Reach (spec args) v → Closed v
  ids : ∀ args v, T.Reach (spec args) v → ∀ p, v.ids p
  enters : ∀ args w, (callFunc g args).run P w = .ok (.enter g args) w
  call : ∀ args v, (∀ x ∈ args, wf x) → T.Reach (spec args) v → ∀ ρ w, G w → Calls P g (denL ρ args).toArray w (fun e w' => e = .returned (v.den ρ) ∧ Below w.heap.size w w')

def fnsOf : List (Nat × (List SV → T SV)) → FuncId → Option (List SV → T SV)
  | [], _ => none
  | (j, s) :: l, g => match Nat.beq j g with
    | true => some s
    | false => fnsOf l g

structure ExtOk (P : Program) (g : FuncId) (spec : List SV → T SV) : Prop where
  closed : ∀ args v, (∀ x ∈ args, wf x) → T.Reach (spec args) v → Closed v
  ids : ∀ args v, T.Reach (spec args) v → ∀ p, v.ids p
  call : ∀ args v, (∀ x ∈ args, wf x) → T.Reach (spec args) v → ∀ ρ w, (callFunc g (denL ρ args).toArray).run P w = .ok (.value (v.den ρ)) w

/-- All that is listed holds. -/
def FnsOk (P : Program) (G : World → Prop) : List (Nat × (List SV → T SV)) → Prop
  | [] => True
  | (g, s) :: l => FnOk P G g s ∧ FnsOk P G l

def ExtsOk (P : Program) : List (Nat × (List SV → T SV)) → Prop
  | [] => True
  | (g, s) :: l => ExtOk P g s ∧ ExtsOk P l

theorem fnsOf_ok {P : Program} {G : World → Prop} : ∀ {l : List (Nat × (List SV → T SV))}, FnsOk P G l → ∀ g s, fnsOf l g = some s → FnOk P G g s
  | [], _, g, s, h => by cases h
  | (j, t) :: l, hl, g, s, h => by
    simp only [fnsOf] at h
    split at h
    · rename_i hj
      have := Nat.eq_of_beq_eq_true hj
      subst this
      cases h
      exact hl.1
    · exact fnsOf_ok hl.2 g s h

theorem extsOf_ok {P : Program} : ∀ {l : List (Nat × (List SV → T SV))}, ExtsOk P l → ∀ g s, fnsOf l g = some s → ExtOk P g s
  | [], _, g, s, h => by cases h
  | (j, t) :: l, hl, g, s, h => by
    simp only [fnsOf] at h
    split at h
    · rename_i hj
      have := Nat.eq_of_beq_eq_true hj
      subst this
      cases h
      exact hl.1
    · exact extsOf_ok hl.2 g s h

def cxOf (tab : Tab) (exts fns : List (Nat × (List SV → T SV))) : Cx := ⟨tab, fnsOf exts, fnsOf fns, fun _ => none⟩

theorem cxOk_of {P : Program} {G : World → Prop} {tab : Tab} {exts fns : List (Nat × (List SV → T SV))} (ht : TabOk P tab) (he : ExtsOk P exts) (hf : FnsOk P G fns) (hk : ∀ w w', Below w.heap.size w w' → G w → G w') (hm : P.follows .mixedOrders = true) :
    CxOk P G (cxOf tab exts fns) := by
  refine ⟨ht, fun g s h => ?_, fun g s h => ?_, hk, hm, fun _ _ _ _ g h hh => by cases hh⟩
  · have := extsOf_ok he g s h
    exact ⟨⟨fun args v hw hr => (this.closed args v hw hr).wf, fun args v hr p _ => this.ids args v hr p⟩, this.call⟩
  · have := fnsOf_ok hf g s h
    exact ⟨⟨fun args v hw hr => (this.closed args v hw hr).wf, fun args v hr p _ => this.ids args v hr p⟩, this.enters, this.call⟩

/-- The run's value alone. -/
def valOf (t : T (SV × St)) : T SV := t.bind fun r => .ret r.1
theorem valOf_good {t : T (SV × St)} {Q : SV → Prop} (h : (valOf t).good Q) : t.good fun r => Q r.1 := by
  unfold valOf at h
  rw [T.good_bind] at h
  exact h

/-- A function's run from plain arguments. -/
def runX (cx : Cx) (bl : Blocks) (fuel : Nat) (fn : Func) (c : Code) (args : List SV) (gm : Mem) : T SV := valOf (runFn cx (drawS cx) bl fuel c fn.ntmps fn.results.toList args gm 0)

/-- **A function's contract, by its run.** -/
theorem fnOk_of {P : Program} {G : World → Prop} {cx : Cx} (hc : CxOk P G cx) {gm : Mem} (hgm : GlobIs G gm) {g : FuncId} {fn : Func} {c : Code} (hf : P.funcs[g]? = some fn) (hb : fn.body = some c) (hent : ∀ args w, (callFunc g args).run P w = .ok (.enter g args) w)
    {bl : Blocks} {fuel : Nat} {ks : List AK} {f : List AV → T SV} (hids : ∀ as v, T.Reach (f as) v → ∀ p, v.ids p)
    (hbl : ∀ Γ : Gam, Γ.G = G → Γ.G Γ.w0 → GlobOk Γ → Γ.n0 = 0 → BlocksIn P Γ bl c)
    (h : ∀ as v, fit ks as → T.Reach (f as) v → Closed v ∧ (runX cx bl fuel fn c (can ks as) gm).good fun u => u = v) : FnOk P G g (spG ks f) := by
  refine ⟨fun args v hw hr => ?_, fun args v hr p => ?_, hent, fun args v hw hr ρ w hG => ?_⟩
  · obtain ⟨as, ha, hr⟩ := spG_reach hr
    exact (h as v (parse_spec ha hw).1 hr).1
  · obtain ⟨as, ha, hr⟩ := spG_reach hr
    exact hids as v hr p
  · obtain ⟨as, ha, hr⟩ := spG_reach hr
    obtain ⟨h1, h2, h3⟩ := parse_spec ha hw
    obtain ⟨hv, hrun⟩ := h as v h1 hr
    rw [← h2 ρ]
    exact fn_ok hc hgm hf hb h3 hv hbl (valOf_good hrun) ρ w hG

theorem enters_of {P : Program} {g : FuncId} {fn : Func} (hf : P.funcs[g]? = some fn) (hn : (fn.name == "runtime.NumGoroutine") = false) (hb : fn.body.isNone = false) (args : Array Value) (w : World) : (callFunc g args).run P w = .ok (.enter g args) w := by
  simp only [callFunc, Sem.run_bind, run_program, Result.andThen_ok, hf, hn, hb, Bool.false_eq_true, if_false, Sem.run_pure]

theorem blocksIn_none {P : Program} {Γ : Gam} : ∀ c : Code, BlocksIn P Γ (fun _ => none) c := by
  intro c
  induction c with
  | seq a b iha ihb => exact ⟨iha, ihb⟩
  | cond c a b iha ihb => exact ⟨iha, ihb⟩
  | block id b ih => exact ih
  | loop b ih => exact ih
  | scope b ih => exact ih
  | _ => trivial
end Go.Sx
