import Derived.Test.YtdmphnfpcblfnaaDoorSxJ
import Derived.LoopN
import Derived.Tactics
/- The symbolic layer, part K: regions, code, functions. -/
namespace Go.Sx
open Go.RowKit (Below)

/-! ### Values that read the same, states that are alike -/
structure VEq (v v' : SV) : Prop where
  den : ∀ ρ, v.den ρ = v'.den ρ
  wf : wf v ↔ wf v'
  ids : ∀ p, v.ids p ↔ v'.ids p

theorem VEq.refl (v : SV) : VEq v v := ⟨fun _ => rfl, Iff.rfl, fun _ => Iff.rfl⟩
theorem VEq.symm {v v' : SV} (h : VEq v v') : VEq v' v := ⟨fun ρ => (h.den ρ).symm, h.wf.symm, fun p => (h.ids p).symm⟩
theorem VEq.trans {v v' v'' : SV} (h : VEq v v') (k : VEq v' v'') : VEq v v'' := ⟨fun ρ => (h.den ρ).trans (k.den ρ), h.wf.trans k.wf, fun p => (h.ids p).trans (k.ids p)⟩
theorem VEq.tt {b : Bool} (h : b = true) : VEq .tt (.bool b) := by subst h; exact ⟨fun ρ => by simp [SV.den], by simp only [Sx.wf], fun p => by simp [SV.ids]⟩
theorem VEq.ff {b : Bool} (h : b = false) : VEq .ff (.bool b) := by subst h; exact ⟨fun ρ => by simp [SV.den], by simp only [Sx.wf], fun p => by simp [SV.ids]⟩

structure Alike (S S' : St) : Prop where
  len : S.tmps.length = S'.tmps.length
  tmps : ∀ t, VEq (getS S.tmps t) (getS S'.tmps t)
  mem : ∀ i, look S.mem i = look S'.mem i
  next : S.next = S'.next

theorem Alike.rel {Γ : Gam} {ρ : Env} {S S' : St} {a : Act} {w : World} (hs : Alike S S') (h : Rel Γ ρ S a w) : Rel Γ ρ S' a w := by
  have hhas : S'.has = S.has := by funext i; simp [St.has, hs.mem i]
  have hd : denL ρ S.tmps = denL ρ S'.tmps := by
    rw [denL_eq, denL_eq]
    apply List.ext_getElem
    · simp [hs.len]
    · intro i h1 h2
      have h1 : i < S.tmps.length := by simpa using h1
      have h2 : i < S'.tmps.length := by simpa using h2
      have := (hs.tmps i).den ρ
      rw [getS_eq, getS_eq] at this
      simpa [List.getD, h1, h2] using this
  refine ⟨by rw [← hd]; exact h.tm, h.df, fun i b hl => ?_, fun i j b c hi hj => h.dj i j b c (by rw [hs.mem]; exact hi) (by rw [hs.mem]; exact hj), h.below, h.pin, by rw [← hs.next]; exact h.nx, fun v hv => ?_, idsL_iff.2 fun v hv => ?_⟩
  · rw [hhas]
    exact h.mem i b (by rw [hs.mem]; exact hl)
  · obtain ⟨i, hi, rfl⟩ := List.getElem_of_mem hv
    have hi' : i < S.tmps.length := by rw [hs.len]; exact hi
    have := (hs.tmps i).wf
    rw [getS_eq, getS_eq] at this
    simp only [List.getD, hi, hi', List.getElem?_eq_getElem, Option.getD_some] at this
    exact this.1 (h.wfT _ (List.getElem_mem hi'))
  · obtain ⟨i, hi, rfl⟩ := List.getElem_of_mem hv
    have hi' : i < S.tmps.length := by rw [hs.len]; exact hi
    have := (hs.tmps i).ids S.has
    rw [getS_eq, getS_eq] at this
    simp only [List.getD, hi, hi', List.getElem?_eq_getElem, Option.getD_some] at this
    rw [hhas]
    exact this.1 (idsL_iff.1 h.idT _ (List.getElem_mem hi'))

theorem Alike.refl (S : St) : Alike S S := ⟨rfl, fun _ => VEq.refl _, fun _ => rfl, rfl⟩
theorem Alike.symm {S S' : St} (h : Alike S S') : Alike S' S := ⟨h.len.symm, fun t => (h.tmps t).symm, fun i => (h.mem i).symm, h.next.symm⟩
theorem Alike.trans {S S' S'' : St} (h : Alike S S') (k : Alike S' S'') : Alike S S'' := ⟨h.len.trans k.len, fun t => (h.tmps t).trans (k.tmps t), fun i => (h.mem i).trans (k.mem i), h.next.trans k.next⟩

theorem getS_set (l : List SV) (d : Nat) (v : SV) (t : Nat) : getS (l.set d v) t = if d = t ∧ d < l.length then v else getS l t := by
  rw [getS_eq, getS_eq]
  simp only [List.getD, List.getElem?_set]
  by_cases h : d = t
  · subst h
    by_cases h2 : d < l.length
    · simp [h2]
    · simp [h2]
  · simp [h]

theorem Alike.set {S S' : St} (h : Alike S S') (d : Nat) {v v' : SV} (hv : VEq v v') : Alike { S with tmps := setS S.tmps d v } { S' with tmps := setS S'.tmps d v' } := by
  refine ⟨by simp [setS_eq, h.len], fun t => ?_, h.mem, h.next⟩
  simp only [setS_eq, getS_set, h.len]
  split
  · exact hv
  · exact h.tmps t

/-- A slot that holds what reads the same. -/
theorem Alike.slot {S : St} (d : Nat) {v : SV} (hv : VEq v (getS S.tmps d)) : Alike { S with tmps := setS S.tmps d v } S := by
  refine ⟨by simp [setS_eq], fun t => ?_, fun _ => rfl, rfl⟩
  simp only [setS_eq, getS_set]
  split
  · rename_i hd; rw [← hd.1]; exact hv
  · exact VEq.refl _

/-- A guard that is decided is put down as decided. -/
def refS (ops : Array Oper) (S : St) (o : Oper) : T St :=
  match o.guard with
  | none => .ret S
  | some (j, _) => match (ops[j]?).bind (·.dst) with
    | none => .ret S
    | some t => match getS S.tmps t with
      | .bool b => .ite b (.ret { S with tmps := setS S.tmps t .tt }) (.ret { S with tmps := setS S.tmps t .ff })
      | _ => .ret S

theorem refS_alike {ops : Array Oper} {S S1 : St} {o : Oper} (h : T.Reach (refS ops S o) S1) : Alike S1 S := by
  unfold refS at h
  split at h
  · rw [T.reach_ret] at h; subst h; exact Alike.refl _
  · split at h
    · rw [T.reach_ret] at h; subst h; exact Alike.refl _
    · split at h
      · rename_i b hb
        rw [T.reach_ite] at h
        rcases h with ⟨hb', h⟩ | ⟨hb', h⟩
        · rw [T.reach_ret] at h; subst h; exact Alike.slot _ (by rw [hb]; exact VEq.tt hb')
        · rw [T.reach_ret] at h; subst h; exact Alike.slot _ (by rw [hb]; exact VEq.ff hb')
      · rw [T.reach_ret] at h; subst h; exact Alike.refl _

/-- A call that is walked into. -/
def callS (cx : Cx) (S : St) (o : Oper) : Option (T St) :=
  match o.op with
  | .call c => match c.callee with
    | .value f => match evS S f with
      | .fn g caps => match cx.inl g with
        | some h => some ((h (c.args.toList.map (evS S) ++ caps) S).bind fun r => .ret { r.2.put o.dst r.1 with next := r.2.next + 1 })
        | none => none
      | _ => none
    | _ => none
  | _ => none

def stepK (cx : Cx) (S : St) (o : Oper) : T St :=
  match callS cx S o with
  | some t => t
  | none => stepS cx S o

theorem stepK_sound {P : Program} {Γ : Gam} {cx : Cx} (hc : CxOk P Γ.G cx) (hg : GlobOk Γ) (h0 : Γ.G Γ.w0) {ρ : Env} {S S' : St} {a : Act} {w : World} (h : Rel Γ ρ S a w) {o : Oper} (hr : T.Reach (stepK cx S o) S') {K : Act → World → Prop} {Q : Exit → Act → World → Prop}
    (hK : ∀ ρ' a' w', Rel Γ ρ' S' a' w' → K a' w') : o.wp P a w K Q := by
  unfold stepK at hr
  split at hr
  · rename_i t ht
    unfold callS at ht
    split at ht
    · rename_i c hop
      split at ht
      · rename_i f hcal
        split at ht
        · rename_i g caps hf
          split at ht
          · rename_i hh hinl
            simp only [Option.some.injEq] at ht
            subst ht
            rw [T.reach_bind] at hr
            obtain ⟨⟨v, S1⟩, h1, h2⟩ := hr
            rw [T.reach_ret] at h2; subst h2
            obtain ⟨s2, s3⟩ := hc.inl Γ rfl h0 hg g hh hinl
            have hev := h.eval_eq hg
            have hargs : ∀ x ∈ c.args.toList.map (evS S) ++ caps, wf x := fun x hx => by
              rw [List.mem_append] at hx
              rcases hx with hx | hx
              · simp at hx; obtain ⟨y, -, rfl⟩ := hx; exact h.ev_wf _
              · have := h.ev_wf f; rw [hf] at this; simp only [wf] at this; exact wfL_iff.1 this x hx
            have hids : idsL S.has (c.args.toList.map (evS S) ++ caps) := idsL_iff.2 fun x hx => by
              rw [List.mem_append] at hx
              rcases hx with hx | hx
              · simp at hx; obtain ⟨y, -, rfl⟩ := hx; exact h.ev_ids _
              · have := h.ev_ids f; rw [hf] at this; simp only [SV.ids] at this; exact idsL_iff.1 this x hx
            have e : (denL ρ (c.args.toList.map (evS S) ++ caps)).toArray = (c.args.map fun x => (evS S x).den ρ) ++ (denL ρ caps).toArray := by
              apply Array.ext'; simp [denL_eq]
            refine callFn_wp (g := g) (args := (denL ρ (c.args.toList.map (evS S) ++ caps)).toArray) (w' := w) ?_ ((s3 _ _ _ _ hargs hids h1 ρ a w h).mono fun e' w' ⟨ρ', he, hrel, hwf, hid⟩ => ⟨v.den ρ', he, hK ρ' _ _ ((hrel.put o.dst hwf hid).next (Nat.le_trans hrel.nx (Nat.le_succ _)))⟩)
            rw [e]
            have hv' : evS S f = .fn g caps := hf
            simp only [execOp, hop, hev, resolve, hcal, hv', SV.den, Deferred.ofValue, Sem.run_bind, Sem.run_pure, Result.andThen_ok, invoke, Array.empty_append]
            exact s2 _ w
          · cases ht
        · cases ht
      · cases ht
    · cases ht
  · exact stepS_sound hc hg h0 h hr hK

/-- An operation under its guard. -/
def opS (cx : Cx) (ops : Array Oper) (S : St) (o : Oper) : T St :=
  match o.guard with
  | none => stepK cx S o
  | some (j, want) => match (ops[j]?).bind (·.dst) with
    | none => .ret (S.put o.dst (.raw undef))
    | some t => match getS S.tmps t with
      | .tt => match want with
        | true => stepK cx S o
        | false => .ret (S.put o.dst (.raw undef))
      | .ff => match want with
        | true => .ret (S.put o.dst (.raw undef))
        | false => stepK cx S o
      | .bool b => match want with
        | true => .ite b (stepK cx S o) (.ret (S.put o.dst (.raw undef)))
        | false => .ite b (.ret (S.put o.dst (.raw undef))) (stepK cx S o)
      | .raw (.tuple _) => .ret (S.put o.dst (.raw undef))
      | _ => .fail "a guard that is no truth"

def runOps (cx : Cx) (ops : Array Oper) : List Oper → St → T St
  | [], S => .ret S
  | o :: rest, S => (refS ops S o).bind fun S1 => (opS cx ops S1 o).bind fun S' => runOps cx ops rest S'

section
variable {P : Program} {Γ : Gam} {cx : Cx}

theorem getS_tmps {ρ : Env} {S : St} {a : Act} {w : World} (h : Rel Γ ρ S a w) (t : Nat) (b : Bool) (hb : (getS S.tmps t).den ρ = .bool b) : a.tmps[t]? = some (.bool b) := by
  have := h.tm
  rw [this]
  rw [getS_eq] at hb
  by_cases ht : t < S.tmps.length
  · simp [List.getD, ht] at hb
    simp [denL_eq, ht, hb]
  · simp [List.getD, ht, SV.den, undef] at hb

theorem getS_tmps_none {ρ : Env} {S : St} {a : Act} {w : World} (h : Rel Γ ρ S a w) (t : Nat) {vs : Array Value} (hb : getS S.tmps t = .raw (.tuple vs)) : ∀ b, a.tmps[t]? ≠ some (.bool b) := by
  intro b hh
  rw [h.tm] at hh
  rw [getS_eq] at hb
  by_cases ht : t < S.tmps.length
  · simp only [List.getD, ht, List.getElem?_eq_getElem, Option.getD_some] at hb
    simp [denL_eq, ht, hb, SV.den] at hh
  · simp [denL_eq, ht] at hh

/-- What a guarded operation does: either it is wanted, and a step; or it is passed over. -/
theorem opS_cases {ρ : Env} {ops : Array Oper} {S S' : St} {a : Act} {w : World} (h : Rel Γ ρ S a w) {o : Oper} (hr : T.Reach (opS cx ops S o) S') :
    (Region.wanted o (yielded ops a.tmps) = true ∧ T.Reach (stepK cx S o) S') ∨ (Region.wanted o (yielded ops a.tmps) = false ∧ S' = S.put o.dst (.raw undef)) := by
  unfold opS at hr
  unfold Region.wanted
  split at hr
  · rename_i hg; rw [hg]; exact .inl ⟨rfl, hr⟩
  · rename_i j want hg
    rw [hg]
    simp only [yielded]
    split at hr
    · rename_i hd
      rw [T.reach_ret] at hr
      rw [hd]
      exact .inr ⟨by simp, hr⟩
    · rename_i t hd
      rw [hd]
      simp only [Option.bind_some]
      split at hr
      · rename_i hv
        have := getS_tmps h t true (by rw [hv]; simp [SV.den])
        rw [this]
        split at hr
        · exact .inl ⟨rfl, hr⟩
        · rw [T.reach_ret] at hr; exact .inr ⟨rfl, hr⟩
      · rename_i hv
        have := getS_tmps h t false (by rw [hv]; simp [SV.den])
        rw [this]
        split at hr
        · rw [T.reach_ret] at hr; exact .inr ⟨rfl, hr⟩
        · exact .inl ⟨rfl, hr⟩
      · rename_i b hv
        have := getS_tmps h t b (by rw [hv]; simp [SV.den])
        rw [this]
        split at hr
        · rw [T.reach_ite] at hr
          rcases hr with ⟨rfl, hr⟩ | ⟨rfl, hr⟩
          · exact .inl ⟨rfl, hr⟩
          · rw [T.reach_ret] at hr; exact .inr ⟨rfl, hr⟩
        · rw [T.reach_ite] at hr
          rcases hr with ⟨rfl, hr⟩ | ⟨rfl, hr⟩
          · rw [T.reach_ret] at hr; exact .inr ⟨rfl, hr⟩
          · exact .inl ⟨rfl, hr⟩
      · rename_i vs hv
        rw [T.reach_ret] at hr
        have := getS_tmps_none h t hv
        refine .inr ⟨?_, hr⟩
        split
        · rename_i b hb; exact absurd hb (this b)
        · simp
      · exact (T.reach_fail hr).elim

theorem runOps_sound (hc : CxOk P Γ.G cx) (hg : GlobOk Γ) (h0 : Γ.G Γ.w0) {ops : Array Oper} {Q : Exit → Act → World → Prop} : ∀ (l : List Oper) {ρ : Env} {S S' : St} {a : Act} {w : World}, Rel Γ ρ S a w → T.Reach (runOps cx ops l S) S' →
    (∀ ρ' a' w', Rel Γ ρ' S' a' w' → Q .normal a' w') → wpList P ops Q l a w
  | [], ρ, S, S', a, w, h, hr, hQ => by
    simp only [runOps, T.reach_ret] at hr
    subst hr
    exact hQ ρ a w h
  | o :: rest, ρ, S, S', a, w, h, hr, hQ => by
    simp only [runOps, T.reach_bind] at hr
    obtain ⟨S0, h0', S1, h1, h2⟩ := hr
    have h := (refS_alike h0').symm.rel h
    unfold wpList
    rcases opS_cases h h1 with ⟨hw, hs⟩ | ⟨hw, rfl⟩
    · rw [if_pos hw]
      exact .inl (stepK_sound hc hg h0 h hs fun ρ' a' w' hrel => runOps_sound hc hg h0 rest hrel h2 hQ)
    · rw [if_neg (by rw [hw]; simp)]
      have := h.put o.dst (v := .raw undef) (by simp only [wf]) (by simp only [SV.ids])
      simp only [SV.den] at this
      exact runOps_sound hc hg h0 rest this h2 hQ
end

inductive Ex where
  | normal
  | exit (id : Nat)
  | ret

def Ex.to : Ex → Exit
  | .normal => .normal
  | .exit id => .exit id
  | .ret => .ret

/-- What blocks are given a meaning by a rule of their own (loops with an invariant). -/
abbrev Blocks := Nat → Option (St → T (Ex × St))

def exec (cx : Cx) (draw : Array Oper → St → T St) (bl : Blocks) : Nat → Code → St → T (Ex × St)
  | 0, _, _ => .fail "exec: fuel"
  | n + 1, c, S => match c with
    | .skip => .ret (.normal, S)
    | .region _ ops dr => match dr with
      | false => (runOps cx ops ops.toList S).bind fun S' => .ret (.normal, S')
      | true => (draw ops S).bind fun S' => .ret (.normal, S')
    | .seq a b => (exec cx draw bl n a S).bind fun r => match r.1 with
      | .normal => exec cx draw bl n b r.2
      | e => .ret (e, r.2)
    | .cond c a b => match evS S c with
      | .tt => exec cx draw bl n a S
      | .ff => exec cx draw bl n b S
      | .bool t => .ite t (exec cx draw bl n a S) (exec cx draw bl n b S)
      | _ => .fail "cond"
    | .block id b => match bl id with
      | some f => f S
      | none => (exec cx draw bl n b S).bind fun r => match r.1 with
        | .exit j => match Nat.beq j id with
          | true => .ret (.normal, r.2)
          | false => .ret r
        | _ => .ret r
    | .loop b => (exec cx draw bl n b S).bind fun r => match r.1 with
      | .normal => exec cx draw bl n (.loop b) r.2
      | _ => .ret r
    | .exit id => .ret (.exit id, S)
    | .ret => .ret (.ret, S)
    | _ => .fail "a form of code that is not known here"

/-- A code from a symbolic state comes to another one, whatever frame and world they stand for. -/
def Comes (P : Program) (Γ : Gam) (c : Code) (S : St) (e : Ex) (S' : St) : Prop :=
  ∀ ρ a w, Rel Γ ρ S a w → c.wp P (fun x a' w' => x = e.to ∧ ∃ ρ', Rel Γ ρ' S' a' w') a w

structure DrawOk (P : Program) (Γ : Gam) (draw : Array Oper → St → T St) : Prop where
  sound : ∀ ops S S' id, T.Reach (draw ops S) S' → Comes P Γ (.region id ops true) S .normal S'

/-- Of each block that the code holds: the rule speaks truly of it. -/
def BlocksIn (P : Program) (Γ : Gam) (bl : Blocks) : Code → Prop
  | .seq a b => BlocksIn P Γ bl a ∧ BlocksIn P Γ bl b
  | .cond _ a b => BlocksIn P Γ bl a ∧ BlocksIn P Γ bl b
  | .block id b => match bl id with
    | some f => ∀ S e S', T.Reach (f S) (e, S') → Comes P Γ (.block id b) S e S'
    | none => BlocksIn P Γ bl b
  | .loop b => BlocksIn P Γ bl b
  | .scope b => BlocksIn P Γ bl b
  | _ => True

section
variable {P : Program} {Γ : Gam} {cx : Cx} {draw : Array Oper → St → T St} {bl : Blocks}

theorem exec_sound (hc : CxOk P Γ.G cx) (hg : GlobOk Γ) (h0 : Γ.G Γ.w0) (hd : DrawOk P Γ draw) : ∀ (n : Nat),
    (∀ (c : Code) (S S' : St) (e : Ex), BlocksIn P Γ bl c → T.Reach (exec cx draw bl n c S) (e, S') → Comes P Γ c S e S') ∧
    (∀ (b : Code) (S S' : St) (e : Ex), BlocksIn P Γ bl b → T.Reach (exec cx draw bl n (.loop b) S) (e, S') → ∀ ρ a w, Rel Γ ρ S a w → Code.rounds P b (fun x a' w' => x = e.to ∧ ∃ ρ', Rel Γ ρ' S' a' w') n a w)
  | 0 => ⟨fun c S S' e _ h => (T.reach_fail h).elim, fun b S S' e _ h => (T.reach_fail h).elim⟩
  | n + 1 => by
    obtain ⟨ih, ihl⟩ := exec_sound hc hg h0 hd n
    have loopCase : ∀ (b : Code) (S S' : St) (e : Ex), BlocksIn P Γ bl b → T.Reach (exec cx draw bl (n + 1) (.loop b) S) (e, S') → ∀ ρ a w, Rel Γ ρ S a w → Code.rounds P b (fun x a' w' => x = e.to ∧ ∃ ρ', Rel Γ ρ' S' a' w') (n + 1) a w := by
      intro b S S' e hb h ρ a w hrel
      simp only [exec, T.reach_bind] at h
      obtain ⟨⟨e1, S1⟩, h1, h2⟩ := h
      have hbody := ih b S S1 e1 hb h1 ρ a w hrel
      rw [rounds_succ]
      cases e1 with
      | normal =>
        simp only at h2
        refine wp_mono hbody fun x a' w' ⟨hx, ρ', hr⟩ => ?_
        subst hx
        exact ihl b S1 S' e hb h2 ρ' a' w' hr
      | exit j =>
        simp only [T.reach_ret, Prod.mk.injEq] at h2
        obtain ⟨rfl, rfl⟩ := h2
        exact wp_mono hbody fun x a' w' ⟨hx, hr⟩ => by subst hx; exact ⟨rfl, hr⟩
      | ret =>
        simp only [T.reach_ret, Prod.mk.injEq] at h2
        obtain ⟨rfl, rfl⟩ := h2
        exact wp_mono hbody fun x a' w' ⟨hx, hr⟩ => by subst hx; exact ⟨rfl, hr⟩
    refine ⟨?_, loopCase⟩
    intro c S S' e hb h
    cases c with
    | skip =>
      simp only [exec, T.reach_ret, Prod.mk.injEq] at h
      obtain ⟨rfl, rfl⟩ := h
      exact fun ρ a w hrel => wp_skip ⟨rfl, ρ, hrel⟩
    | region id ops dr =>
      simp only [exec] at h
      cases dr with
      | false =>
        simp only [T.reach_bind, T.reach_ret, Prod.mk.injEq] at h
        obtain ⟨S1, h1, rfl, rfl⟩ := h
        exact fun ρ a w hrel => wp_region_list (runOps_sound hc hg h0 _ hrel h1 fun ρ' a' w' hr => ⟨rfl, ρ', hr⟩)
      | true =>
        simp only [T.reach_bind, T.reach_ret, Prod.mk.injEq] at h
        obtain ⟨S1, h1, rfl, rfl⟩ := h
        exact hd.sound ops S _ id h1
    | seq x y =>
      simp only [exec, T.reach_bind] at h
      obtain ⟨⟨e1, S1⟩, h1, h2⟩ := h
      have hx := ih x S S1 e1 hb.1 h1
      intro ρ a w hrel
      refine wp_seq ?_
      cases e1 with
      | normal =>
        simp only at h2
        have hy := ih y S1 S' e hb.2 h2
        refine wp_mono (hx ρ a w hrel) fun x a' w' ⟨hx, ρ', hr⟩ => ?_
        subst hx
        exact hy ρ' a' w' hr
      | exit j =>
        simp only [T.reach_ret, Prod.mk.injEq] at h2
        obtain ⟨rfl, rfl⟩ := h2
        exact wp_mono (hx ρ a w hrel) fun x a' w' ⟨hx, hr⟩ => by subst hx; exact ⟨rfl, hr⟩
      | ret =>
        simp only [T.reach_ret, Prod.mk.injEq] at h2
        obtain ⟨rfl, rfl⟩ := h2
        exact wp_mono (hx ρ a w hrel) fun x a' w' ⟨hx, hr⟩ => by subst hx; exact ⟨rfl, hr⟩
    | cond c x y =>
      simp only [exec] at h
      intro ρ a w hrel
      have hev := hrel.ev hg c
      split at h
      · rename_i hcv
        rw [hcv] at hev
        exact wp_cond_true (by simpa [SV.den] using hev) (ih x S S' e hb.1 h ρ a w hrel)
      · rename_i hcv
        rw [hcv] at hev
        exact wp_cond_false (by simpa [SV.den] using hev) (ih y S S' e hb.2 h ρ a w hrel)
      · rename_i t hcv
        rw [hcv] at hev
        rw [T.reach_ite] at h
        rcases h with ⟨rfl, h⟩ | ⟨rfl, h⟩
        · exact wp_cond_true (by simpa [SV.den] using hev) (ih x S S' e hb.1 h ρ a w hrel)
        · exact wp_cond_false (by simpa [SV.den] using hev) (ih y S S' e hb.2 h ρ a w hrel)
      · exact (T.reach_fail h).elim
    | block id b =>
      simp only [exec] at h
      simp only [BlocksIn] at hb
      split at h
      · rename_i f hf
        rw [hf] at hb
        exact hb S e S' h
      · rename_i hf
        rw [hf] at hb
        simp only [T.reach_bind] at h
        obtain ⟨⟨e1, S1⟩, h1, h2⟩ := h
        have hx := ih b S S1 e1 hb h1
        intro ρ a w hrel
        refine wp_block (wp_mono (hx ρ a w hrel) fun x a' w' ⟨hx, hr⟩ => ?_)
        subst hx
        cases e1 with
        | normal =>
          simp only [T.reach_ret, Prod.mk.injEq] at h2
          obtain ⟨rfl, rfl⟩ := h2
          exact ⟨rfl, hr⟩
        | exit j =>
          simp only at h2
          simp only [Ex.to, Exit.inBlock]
          split at h2
          · rename_i hj
            have hj := Nat.eq_of_beq_eq_true hj
            simp only [T.reach_ret, Prod.mk.injEq] at h2
            obtain ⟨rfl, rfl⟩ := h2
            rw [if_pos hj]
            exact ⟨rfl, hr⟩
          · rename_i hj
            simp only [T.reach_ret, Prod.mk.injEq] at h2
            obtain ⟨rfl, rfl⟩ := h2
            rw [if_neg (fun e => by rw [e, Nat.beq_refl] at hj; cases hj)]
            exact ⟨rfl, hr⟩
        | ret =>
          simp only [T.reach_ret, Prod.mk.injEq] at h2
          obtain ⟨rfl, rfl⟩ := h2
          exact ⟨rfl, hr⟩
    | loop b =>
      exact fun ρ a w hrel => wp_loop_rounds (n + 1) (loopCase b S S' e hb h ρ a w hrel)
    | exit id =>
      simp only [exec, T.reach_ret, Prod.mk.injEq] at h
      obtain ⟨rfl, rfl⟩ := h
      exact fun ρ a w hrel => wp_exit ⟨rfl, ρ, hrel⟩
    | ret =>
      simp only [exec, T.reach_ret, Prod.mk.injEq] at h
      obtain ⟨rfl, rfl⟩ := h
      exact fun ρ a w hrel => wp_ret ⟨rfl, ρ, hrel⟩
    | rangeFunc _ _ _ _ => exact (T.reach_fail h).elim
    | scope _ => exact (T.reach_fail h).elim
    | label _ => exact (T.reach_fail h).elim
    | goto _ => exact (T.reach_fail h).elim
    | refuse _ => exact (T.reach_fail h).elim
end

/-! ### Results, functions -/
def resS1 (cx : Cx) (S : St) : ResultVar → T SV
  | .tmp t => .ret (getS S.tmps t)
  | .cell a t => loadS cx S t (getS S.tmps a)

def resSL (cx : Cx) (S : St) : List ResultVar → T (List SV)
  | [] => .ret []
  | r :: rs => (resS1 cx S r).bind fun v => (resSL cx S rs).bind fun vs => .ret (v :: vs)

def resS (cx : Cx) (S : St) (rs : List ResultVar) : T SV :=
  (resSL cx S rs).bind fun vs => match vs with
    | [v] => .ret v
    | vs => .ret (.tup vs)

section
variable {P : Program} {Γ : Gam} {cx : Cx}

def rdRes (tmps : Array Value) : ResultVar → Sem Value
  | .tmp t => pure (tmps.getD t undef)
  | .cell b t => do loadVar t (← asAddr (tmps.getD b undef))

theorem results_eq (fn : Func) (tmps : Array Value) : results fn tmps = (do
    let vs ← fn.results.mapM (rdRes tmps)
    pure (if h : vs.size = 1 then vs[0] else .tuple vs)) := by
  unfold results
  congr 2

theorem resSL_sound (hc : CxOk P Γ.G cx) {ρ : Env} {S : St} {a : Act} {w : World} (h : Rel Γ ρ S a w) : ∀ (rs : List ResultVar) (vs : List SV), T.Reach (resSL cx S rs) vs →
    (rs.mapM (rdRes a.tmps)).run P w = .ok (denL ρ vs) w
  | [], vs, hr => by
    simp only [resSL, T.reach_ret] at hr
    subst hr
    simp [denL]
  | r :: rs, vs, hr => by
    simp only [resSL, T.reach_bind, T.reach_ret] at hr
    obtain ⟨v, h1, vs', h2, rfl⟩ := hr
    have ih := resSL_sound hc h rs vs' h2
    have hget : ∀ t, a.tmps.getD t undef = (getS S.tmps t).den ρ := fun t => by rw [h.tm, getS_eq]; exact getD_denL ρ S.tmps t
    rw [List.mapM_cons]
    cases r with
    | tmp t =>
      simp only [resS1, T.reach_ret] at h1
      subst h1
      simp only [rdRes, Sem.run_bind, Sem.run_pure, Result.andThen_ok, ih, hget, denL]
    | cell b t =>
      simp only [resS1] at h1
      obtain ⟨-, -, h3⟩ := load_sound hc h h1
      have hp : ∃ bb o y, getS S.tmps b = .ptr bb o y := by
        unfold loadS at h1
        split at h1
        · rename_i ti bb o y _ hh; exact ⟨bb, o, y, by assumption⟩
        · exact (T.reach_fail h1).elim
      obtain ⟨bb, o, y, hp⟩ := hp
      rw [hp] at h3
      simp only [SV.den, Instr.loadAt, Instr.sureAddr, Sem.run_bind, Sem.run_pure, Result.andThen_ok] at h3
      simp only [rdRes, Sem.run_bind, Sem.run_pure, Result.andThen_ok, hget, hp, SV.den, asAddr, h3, ih, denL]

theorem resS_sound (hc : CxOk P Γ.G cx) {ρ : Env} {S : St} {a : Act} {w : World} (h : Rel Γ ρ S a w) {fn : Func} {v : SV} (hr : T.Reach (resS cx S fn.results.toList) v) : (results fn a.tmps).run P w = .ok (v.den ρ) w := by
  unfold resS at hr
  rw [T.reach_bind] at hr
  obtain ⟨vs, h1, h2⟩ := hr
  have hl := resSL_sound hc h fn.results.toList vs h1
  have hm : (fn.results.mapM (rdRes a.tmps)).run P w = .ok (denL ρ vs).toArray w := by
    rw [← Array.toList_mapM, Sem.run_map] at hl
    generalize (fn.results.mapM (rdRes a.tmps)).run P w = r at hl ⊢
    cases r with
    | ok x w' =>
      simp only [Result.andThen_ok, Result.ok.injEq] at hl
      obtain ⟨hl, rfl⟩ := hl
      rw [← hl]
    | halt x w' => cases hl
  rw [results_eq]
  simp only [Sem.run_bind, hm, Result.andThen_ok, Sem.run_pure]
  split at h2
  · rename_i u
    rw [T.reach_ret] at h2; subst h2
    simp [denL]
  · rename_i hne
    rw [T.reach_ret] at h2; subst h2
    have : (denL ρ vs).toArray.size ≠ 1 := by
      rw [denL_eq]
      simp
      intro hl
      match vs, hl with
      | [x], _ => exact hne x rfl
    rw [dif_neg this]
    simp [SV.den]

/-- The frame at a function's entry. -/
def entryTmps (args : List SV) (n : Nat) : List SV := args ++ List.replicate (n - args.length) (.raw undef)

/-- A function's run from a symbolic state on: what it hands back, and the state at its end. -/
def runFn (cx : Cx) (draw : Array Oper → St → T St) (bl : Blocks) (fuel : Nat) (c : Code) (ntmps : Nat) (rs : List ResultVar) (args : List SV) (mem : Mem) (next : Nat) : T (SV × St) :=
  (exec cx draw bl fuel c { tmps := entryTmps args ntmps, mem := mem, next := next }).bind fun r => match r.1 with
    | .exit _ => .fail "a function left by an exit"
    | _ => (resS cx r.2 rs).bind fun v => .ret (v, r.2)

theorem runFn_sound {draw : Array Oper → St → T St} {bl : Blocks} (hc : CxOk P Γ.G cx) (hg : GlobOk Γ) (h0 : Γ.G Γ.w0) (hd : DrawOk P Γ draw) {f : FuncId} {fn : Func} {c : Code} (hf : P.funcs[f]? = some fn) (hb : fn.body = some c) (hbl : BlocksIn P Γ bl c)
    {fuel : Nat} {args : List SV} {mem : Mem} {next : Nat} {v : SV} {S' : St} (hr : T.Reach (runFn cx draw bl fuel c fn.ntmps fn.results.toList args mem next) (v, S'))
    {ρ : Env} {w : World} (hrel : Rel Γ ρ { tmps := entryTmps args fn.ntmps, mem := mem, next := next } { tmps := (denL ρ (entryTmps args fn.ntmps)).toArray, defers := [] } w) :
    Calls P f (denL ρ args).toArray w fun e w' => ∃ ρ' a', e = .returned (v.den ρ') ∧ Rel Γ ρ' S' a' w' := by
  unfold runFn at hr
  rw [T.reach_bind] at hr
  obtain ⟨⟨e, S1⟩, h1, h2⟩ := hr
  have hcome := (exec_sound hc hg h0 hd fuel).1 c _ S1 e hbl h1 ρ _ w hrel
  have htm : (denL ρ args).toArray ++ Array.replicate (fn.ntmps - (denL ρ args).toArray.size) undef = (denL ρ (entryTmps args fn.ntmps)).toArray := by
    apply Array.ext'
    simp [denL_eq, entryTmps, SV.den]
  refine calls_of_wp hf hb ?_
  rw [htm]
  refine wp_mono hcome fun x a' w' ⟨hx, ρ', hr'⟩ => ?_
  subst hx
  cases e with
  | exit j => exact (T.reach_fail h2).elim
  | normal =>
    simp only [T.reach_bind, T.reach_ret, Prod.mk.injEq] at h2
    obtain ⟨u, hu, rfl, rfl⟩ := h2
    exact ⟨hr'.df, _, resS_sound hc hr' hu, ρ', a', rfl, hr'⟩
  | ret =>
    simp only [T.reach_bind, T.reach_ret, Prod.mk.injEq] at h2
    obtain ⟨u, hu, rfl, rfl⟩ := h2
    exact ⟨hr'.df, _, resS_sound hc hr' hu, ρ', a', rfl, hr'⟩
end
end Go.Sx
