import Derived.Test.YtdmphnfpcblfnaaDoorSxH
/- The symbolic layer, part I: one operation, whatever it is, and what it does to a frame and a world. -/
namespace Go.Sx
open Go.RowKit (Below)

/-- What the executor is given. -/
structure Cx where
  tab : Tab
  ext : FuncId → Option (List SV → T SV)
  fn : FuncId → Option (List SV → T SV)
  inl : FuncId → Option (List SV → St → T (SV × St))

structure SpecOk (spec : List SV → T SV) : Prop where
  wf : ∀ args v, (∀ x ∈ args, wf x) → T.Reach (spec args) v → wf v
  ids : ∀ args v, T.Reach (spec args) v → ∀ p : Nat → Prop, (∀ x ∈ args, x.ids p) → v.ids p

/-- Functions that are walked into where they are called: what a call makes of the state. -/
def InlOk (P : Program) (Γ : Gam) (cx : Cx) : Prop := ∀ g h, cx.inl g = some h → (∀ args w, (callFunc g args).run P w = .ok (.enter g args) w) ∧
  ∀ args S v S', (∀ x ∈ args, wf x) → idsL S.has args → T.Reach (h args S) (v, S') → ∀ ρ a w, Rel Γ ρ S a w →
    Calls P g (denL ρ args).toArray w (fun e w' => ∃ ρ', e = .returned (v.den ρ') ∧ Rel Γ ρ' S' a w' ∧ wf v ∧ v.ids S'.has)

structure CxOk (P : Program) (G : World → Prop) (cx : Cx) : Prop where
  tab : TabOk P cx.tab
  ext : ∀ g spec, cx.ext g = some spec → SpecOk spec ∧ ∀ args v, (∀ x ∈ args, wf x) → T.Reach (spec args) v → ∀ ρ w, (callFunc g (denL ρ args).toArray).run P w = .ok (.value (v.den ρ)) w
  fn : ∀ g spec, cx.fn g = some spec → SpecOk spec ∧ (∀ args w, (callFunc g args).run P w = .ok (.enter g args) w) ∧
    ∀ args v, (∀ x ∈ args, wf x) → T.Reach (spec args) v → ∀ ρ w, G w → Calls P g (denL ρ args).toArray w (fun e w' => e = .returned (v.den ρ) ∧ Below w.heap.size w w')
  keep : ∀ w w', Below w.heap.size w w' → G w → G w'
  mixed : P.follows .mixedOrders = true
  inl : ∀ Γ : Gam, Γ.G = G → Γ.G Γ.w0 → GlobOk Γ → InlOk P Γ cx

def pureS (cx : Cx) (o : Oper) (ev : Operand → SV) : Option (T SV) :=
  match o.op with
  | .move x => some (.ret (ev x))
  | .assign x => some (.ret (ev x))
  | .pick c a b => match ev c with
    | .tt => some (.ret (ev a))
    | .ff => some (.ret (ev b))
    | .bool t => some (pickB t (ev a) (ev b))
    | _ => none
  | .build t parts => some (buildS cx.tab t (parts.toList.map fun x => (x.1, ev x.2)))
  | .binOp op t x y _ => match numOf (ev x), numOf (ev y) with
    | some (lx, k, a), some (ly, k', b) => some (binN op lx k a ly k' b)
    | _, _ => match isAggV (ev x) && isAggV (ev y), cx.tab t with
      | true, some ti => match ti.pl with
        | true => match op with
          | .eql => some ((eqT cx.tab 8 t (ev x) (ev y)).bind fun r => .ret (.bool r))
          | .neq => some ((eqT cx.tab 8 t (ev x) (ev y)).bind fun r => .ret (.bool (!r)))
          | _ => none
        | false => none
      | _, _ => match boolOf (ev x), boolOf (ev y) with
        | some a, some b => match (match cx.tab t with
            | some ti => match ti.d with
              | .bool => true
              | _ => false
            | none => false) with
          | true => match op with
            | .eql => some (.ret (.bool (a == b)))
            | .neq => some (.ret (.bool (!(a == b))))
            | _ => none
          | false => none
        | _, _ => none
  | .unOp op _ x => some (unS op (ev x))
  | .convert src dst x => some (convertS cx.tab src dst (ev x))
  | .fieldAddr s x f => some (fieldAddrS cx.tab s (ev x) f)
  | .field s x f => some (fieldS cx.tab s (ev x) f)
  | .indexAddr t x i => some (indexS cx.tab t (ev x) (ev i))
  | .index t x i => some (indexVS cx.tab t (ev x) (ev i))
  | .slice t x lo hi mx => match mx with
    | none => some (sliceS cx.tab t (ev x) (lo.map ev) (hi.map ev))
    | some _ => none
  | .extract x i => some (extractS (ev x) i)
  | .makeFunc fn first caps => match fn, first.toList with
    | .func f, [] => some (.ret (.fn f (caps.toList.map ev)))
    | _, _ => none
  | .call c => match c.callee with
    | .builtin .len => match c.argTypes[0]?, c.args[0]? with
      | some t, some x => some (lenS cx.tab t (ev x))
      | _, _ => none
    | .value f => match ev f with
      | .fn g caps => match cx.ext g with
        | some spec => some (spec (c.args.toList.map ev ++ caps))
        | none => none
      | _ => none
    | _ => none
  | _ => none


theorem extractS_spec {P : Program} {x v : SV} {i : Nat} (hx : wf x) (h : T.Reach (extractS x i) v) : wf v ∧ (∀ p, x.ids p → v.ids p) ∧ ∀ ρ w, (Instr.extract (x.den ρ) i).run P w = .ok (v.den ρ) w := by
  unfold extractS at h
  split at h
  · rename_i ps
    split at h
    · rename_i u hu
      rw [T.reach_ret] at h; subst h
      have hm : v ∈ ps := List.mem_of_getElem? hu
      simp only [wf] at hx
      refine ⟨wfL_iff.1 hx v hm, fun p hp => ?_, fun ρ w => ?_⟩
      · simp only [SV.ids] at hp; exact idsL_iff.1 hp v hm
      · simp only [SV.den, Instr.extract, denL_eq]
        have : (List.map (SV.den ρ) ps).toArray[i]? = some (v.den ρ) := by simp [hu]
        simp [this]
    · exact (T.reach_fail h).elim
  · exact (T.reach_fail h).elim

theorem run_eqGuard_agg {P : Program} {w : World} {op : BinOp} {t : TypeId} {x y : Operand} {a b : Value} (ha : a ≠ .nilIface) (hg : ∀ cs, a = .agg cs → P.eqGuardType P.depth t = false) :
    (eqGuard op t x y a b).run P w = .ok () w := by
  unfold eqGuard
  split
  · simp only [Bool.not_true, Bool.false_eq_true, if_false]
    cases a
    case nilIface => exact absurd rfl ha
    case agg cs =>
      cases b <;> try rfl
      simp [hg cs rfl]
    all_goals (cases b <;> rfl)
  · simp only [Bool.not_true, Bool.false_eq_true, if_false]
    cases a
    case nilIface => exact absurd rfl ha
    case agg cs =>
      cases b <;> try rfl
      simp [hg cs rfl]
    all_goals (cases b <;> rfl)
  · simp

theorem den_not_nilIface {x : SV} (h : numOf x ≠ none ∨ isAggV x = true ∨ boolOf x ≠ none) (ρ : Env) : x.den ρ ≠ .nilIface := by
  intro he
  cases x <;> simp [numOf, isAggV, boolOf] at h <;> simp [SV.den] at he

theorem map_build (ev : Operand → SV) (ρ : Env) (parts : Array (Nat × Operand)) :
    (parts.map fun (x : Nat × Operand) => (x.1, (ev x.2).den ρ)) = ((parts.toList.map fun x => (x.1, ev x.2)).map fun x => (x.1, x.2.den ρ)).toArray := by
  apply Array.ext'; simp

theorem pureS_spec {P : Program} {G : World → Prop} {cx : Cx} (hc : CxOk P G cx) {o : Oper} {ev : Operand → SV} {t : T SV} {v : SV} (hw : ∀ x, wf (ev x)) (ht : pureS cx o ev = some t) (h : T.Reach t v) :
    wf v ∧ (∀ p, (∀ x ∈ o.op.operands, (ev x).ids p) → v.ids p) ∧ ∀ ρ w, (execOp (fun x => (ev x).den ρ) o).run P w = .ok (.value (v.den ρ)) w := by
  obtain ⟨dst, op, type, pos, after, guard⟩ := o
  unfold pureS at ht
  simp only at ht
  split at ht
  · -- move
    simp at ht; subst ht; rw [T.reach_ret] at h; subst h
    exact ⟨hw _, fun p hp => hp _ (by simp [Op.operands]), fun ρ w => rfl⟩
  · simp at ht; subst ht; rw [T.reach_ret] at h; subst h
    exact ⟨hw _, fun p hp => hp _ (by simp [Op.operands]), fun ρ w => rfl⟩
  · -- pick
    rename_i c a b
    split at ht
    · rename_i hcv
      simp at ht; subst ht; rw [T.reach_ret] at h; subst h
      exact ⟨hw _, fun p hp => hp _ (by simp [Op.operands]), fun ρ w => by simp [execOp, hcv, SV.den, asBool]⟩
    · rename_i hcv
      simp at ht; subst ht; rw [T.reach_ret] at h; subst h
      exact ⟨hw _, fun p hp => hp _ (by simp [Op.operands]), fun ρ w => by simp [execOp, hcv, SV.den, asBool]⟩
    · rename_i cb hcv
      simp at ht; subst ht
      obtain ⟨h1, h2, h3⟩ := pickB_spec h
      refine ⟨h2 (hw _) (hw _), fun p hp => h3 p (hp _ (by simp [Op.operands])) (hp _ (by simp [Op.operands])), fun ρ w => ?_⟩
      simp [execOp, hcv, SV.den, asBool, h1 ρ]
    · cases ht
  · -- build
    rename_i bt parts
    simp at ht; subst ht
    obtain ⟨h1, h2, h3⟩ := buildS_spec hc.tab (fun x hx => by simp at hx; obtain ⟨a, b, -, rfl⟩ := hx; exact hw _) h
    refine ⟨h1, fun p hp => h2 p (fun x hx => ?_), fun ρ w => ?_⟩
    · simp at hx
      obtain ⟨a, b, hm, rfl⟩ := hx
      exact hp _ (by simp [Op.operands]; exact ⟨a, hm⟩)
    · have := h3 ρ w
      simp only [execOp, map_build, Sem.run_bind, this, Result.andThen_ok, Sem.run_pure]
  · -- binOp
    rename_i bop bt x y yt
    split at ht
    · rename_i lx k a ly k' b hx hy
      simp at ht; subst ht
      refine ⟨(binN_plain h).wf, fun p _ => (binN_plain h).ids p, fun ρ w => ?_⟩
      have e1 : (eqGuard bop bt x y ((ev x).den ρ) ((ev y).den ρ)).run P w = .ok () w :=
        run_eqGuard_agg (den_not_nilIface (.inl (by rw [hx]; simp)) ρ) (fun cs he => by rw [numOf_den hx] at he; cases he)
      have e2 := run_binN (P := P) (w := w) (t := bt) h ρ
      rw [← numOf_den hx ρ, ← numOf_den hy ρ] at e2
      simp only [execOp, Sem.run_bind, e1, Result.andThen_ok, e2, Sem.run_pure]
    · rename_i hnn
      split at ht
      · rename_i ti hagg hti
        simp only [Bool.and_eq_true] at hagg
        split at ht
        · rename_i hpl
          obtain ⟨-, p2, -⟩ := (hc.tab _ _ hti).plain hpl
          have key : ∀ r, T.Reach (eqT cx.tab 8 bt (ev x) (ev y)) r → ∀ ρ w, (Op.equal bt ((ev x).den ρ) ((ev y).den ρ)).run P w = .ok r w := fun r hr ρ w =>
            eqT_spec hc.tab 8 Op.maxDepth bt _ _ r (by simp [Op.maxDepth]) (hw _) (hw _) hr
          have e1 : ∀ ρ w, (eqGuard bop bt x y ((ev x).den ρ) ((ev y).den ρ)).run P w = .ok () w := fun ρ w =>
            run_eqGuard_agg (den_not_nilIface (.inr (.inl hagg.1)) ρ) (fun _ _ => p2)
          split at ht
          · simp at ht; subst ht
            rw [T.reach_bind] at h
            obtain ⟨r, hr, h⟩ := h
            rw [T.reach_ret] at h; subst h
            refine ⟨by simp only [wf], fun p _ => by simp [SV.ids], fun ρ w => ?_⟩
            have hk := key r hr ρ w
            simp only [execOp, Sem.run_bind, e1, Result.andThen_ok, Sem.run_pure]
            rw [isAggV_den hagg.1, isAggV_den hagg.2] at hk ⊢
            simp [binOp, hk, SV.den]
          · simp at ht; subst ht
            rw [T.reach_bind] at h
            obtain ⟨r, hr, h⟩ := h
            rw [T.reach_ret] at h; subst h
            refine ⟨by simp only [wf], fun p _ => by simp [SV.ids], fun ρ w => ?_⟩
            have hk := key r hr ρ w
            simp only [execOp, Sem.run_bind, e1, Result.andThen_ok, Sem.run_pure]
            rw [isAggV_den hagg.1, isAggV_den hagg.2] at hk ⊢
            simp [binOp, hk, SV.den]
          · cases ht
        · cases ht
      · split at ht
        · rename_i a b ha hb
          split at ht
          · rename_i hbool
            have hu : P.underlying bt = some .bool := by
              split at hbool
              · rename_i ti hti
                have ok := hc.tab _ _ hti
                split at hbool
                · rename_i hd; rw [ok.und, hd]
                · cases hbool
              · cases hbool
            have key : ∀ w, (Op.equal bt (.bool a) (.bool b)).run P w = .ok (a == b) w := fun w => run_equalIn_bool' w 9999 bt a b hu
            have e1 : ∀ ρ w, (eqGuard bop bt x y ((ev x).den ρ) ((ev y).den ρ)).run P w = .ok () w := fun ρ w =>
              run_eqGuard_agg (den_not_nilIface (.inr (.inr (by rw [ha]; simp))) ρ) (fun cs he => by rw [boolOf_den ha] at he; cases he)
            split at ht
            · simp at ht; subst ht
              rw [T.reach_ret] at h; subst h
              refine ⟨by simp only [wf], fun p _ => by simp [SV.ids], fun ρ w => ?_⟩
              simp only [execOp, Sem.run_bind, e1, Result.andThen_ok, Sem.run_pure]
              rw [boolOf_den ha, boolOf_den hb]
              simp [binOp, key, SV.den]
            · simp at ht; subst ht
              rw [T.reach_ret] at h; subst h
              refine ⟨by simp only [wf], fun p _ => by simp [SV.ids], fun ρ w => ?_⟩
              simp only [execOp, Sem.run_bind, e1, Result.andThen_ok, Sem.run_pure]
              rw [boolOf_den ha, boolOf_den hb]
              simp [binOp, key, SV.den]
            · cases ht
          · cases ht
        · cases ht
  · -- unOp
    simp at ht; subst ht
    obtain ⟨h1, h2⟩ := unS_spec (P := P) h
    exact ⟨h1.wf, fun p _ => h1.ids p, fun ρ w => by simp [execOp, h2 ρ w]⟩
  · simp at ht; subst ht
    obtain ⟨h1, h2⟩ := convertS_spec hc.tab h
    exact ⟨h1.wf, fun p _ => h1.ids p, fun ρ w => by simp [execOp, h2 ρ w]⟩
  · simp at ht; subst ht
    obtain ⟨h1, h2, h3⟩ := fieldAddrS_spec hc.tab h
    exact ⟨h1, fun p hp => h2 p (hp _ (by simp [Op.operands])), fun ρ w => by simp [execOp, h3 ρ w]⟩
  · simp at ht; subst ht
    obtain ⟨h1, h2, h3⟩ := fieldS_spec hc.tab (hw _) h
    exact ⟨h1, fun p hp => h2 p (hp _ (by simp [Op.operands])), fun ρ w => by simp [execOp, h3 ρ w]⟩
  · simp at ht; subst ht
    obtain ⟨h1, h2, h3⟩ := indexS_spec hc.tab h
    exact ⟨h1, fun p hp => h2 p (hp _ (by simp [Op.operands])), fun ρ w => by simp [execOp, h3 ρ w]⟩
  · simp at ht; subst ht
    obtain ⟨h1, h2, h3⟩ := indexVS_spec hc.tab (hw _) h
    exact ⟨h1, fun p hp => h2 p (hp _ (by simp [Op.operands])), fun ρ w => by simp [execOp, h3 ρ w]⟩
  · -- slice
    rename_i st x lo hi mx
    cases mx with
    | some _ => cases ht
    | none =>
    simp at ht; subst ht
    obtain ⟨h1, h2, h3⟩ := sliceS_spec hc.tab h
    refine ⟨h1, fun p hp => h2 p (hp _ (by simp [Op.operands])), fun ρ w => ?_⟩
    have := h3 ρ w
    simp only [Option.map_map] at this
    simp only [execOp, Option.map_none, Sem.run_bind, Sem.run_pure]
    rw [show (Option.map (fun x => (ev x).den ρ) lo) = Option.map (SV.den ρ ∘ ev) lo from rfl, show (Option.map (fun x => (ev x).den ρ) hi) = Option.map (SV.den ρ ∘ ev) hi from rfl, this]; rfl
  · simp at ht; subst ht
    obtain ⟨h1, h2, h3⟩ := extractS_spec (P := P) (hw _) h
    exact ⟨h1, fun p hp => h2 p (hp _ (by simp [Op.operands])), fun ρ w => by simp [execOp, h3 ρ w]⟩
  · -- makeFunc
    rename_i fn first caps
    split at ht
    case h_2 => cases ht
    rename_i f hfirst
    have hfirst : first = #[] := by apply Array.ext'; simpa using hfirst
    subst hfirst
    simp at ht; subst ht; rw [T.reach_ret] at h; subst h
    refine ⟨?_, fun p hp => ?_, fun ρ w => ?_⟩
    · simp only [wf]; exact wfL_iff.2 fun q hq => by simp at hq; obtain ⟨x, -, rfl⟩ := hq; exact hw _
    · simp only [SV.ids]; exact idsL_iff.2 fun q hq => by simp at hq; obtain ⟨x, hx, rfl⟩ := hq; exact hp _ (by simp [Op.operands, hx])
    · simp only [execOp, SV.den, denL_eq, Instr.makeFunc, Sem.run_bind, Sem.run_pure, Result.andThen_ok, Array.map_empty]
      congr 3
      apply Array.ext'; simp
  · -- call
    rename_i c
    split at ht
    · -- len
      rename_i hcal
      split at ht
      · rename_i lt x hlt hx
        simp at ht; subst ht
        obtain ⟨h1, h2⟩ := lenS_spec hc.tab h c.argTypes (c.args.map fun x => 0 |> fun _ => Value.nilFunc) hlt type
        refine ⟨h1.wf, fun p _ => h1.ids p, fun ρ w => ?_⟩
        obtain ⟨-, h2⟩ := lenS_spec hc.tab h c.argTypes (c.args.map fun x => (ev x).den ρ) hlt type
        have := h2 ρ w (by simp [hx])
        simp [execOp, resolve, hcal, invoke, builtin, this]
      · cases ht
    · rename_i f hcal
      split at ht
      · rename_i g caps hf
        split at ht
        · rename_i spec hspec
          simp at ht; subst ht
          obtain ⟨s1, s2⟩ := hc.ext g spec hspec
          have hargs : ∀ x ∈ c.args.toList.map ev ++ caps, wf x := fun x hx => by
            rw [List.mem_append] at hx
            rcases hx with hx | hx
            · simp at hx; obtain ⟨y, -, rfl⟩ := hx; exact hw _
            · have := hw f; rw [hf] at this; simp only [wf] at this; exact wfL_iff.1 this x hx
          refine ⟨s1.wf _ _ hargs h, fun p hp => s1.ids _ _ h p (fun x hx => ?_), fun ρ w => ?_⟩
          · rw [List.mem_append] at hx
            rcases hx with hx | hx
            · simp at hx; obtain ⟨y, hy, rfl⟩ := hx; exact hp _ (by simp [Op.operands, Call.operands, hcal, hy])
            · have := hp f (by simp [Op.operands, Call.operands, hcal]); rw [hf] at this; simp only [SV.ids] at this; exact idsL_iff.1 this x hx
          · have h2 := s2 _ _ hargs h ρ w
            have e : (denL ρ (c.args.toList.map ev ++ caps)).toArray = (c.args.map fun x => (ev x).den ρ) ++ (denL ρ caps).toArray := by
              apply Array.ext'; simp [denL_eq]
            rw [e] at h2
            simp only [execOp, resolve, hcal, hf, SV.den, Deferred.ofValue, Sem.run_bind, Sem.run_pure, Result.andThen_ok, invoke]
            simpa using h2
        · cases ht
      · cases ht
    · cases ht
  · cases ht
end Go.Sx
