import Derived.Test.YtdmphnfpcblfnaaDoorSxCt
/- The symbolic layer: loops as rules. A round's end is brought to the invariant's form by forgetting. -/
namespace Go.Sx
open Go.RowKit (Below)

inductive Kp where
  | keep | junk | soft

def soft1 : SV → SV
  | .lit k n => .int k n
  | .tt => .bool true
  | .ff => .bool false
  | v => v

theorem soft1_den (ρ : Env) (v : SV) : (soft1 v).den ρ = v.den ρ := by cases v <;> simp [soft1, SV.den]
theorem soft1_wf {v : SV} (h : wf v) : wf (soft1 v) := by cases v <;> simp only [soft1, wf] at * <;> exact h
theorem soft1_ids {v : SV} {p : Nat → Prop} (h : v.ids p) : (soft1 v).ids p := by cases v <;> simp only [soft1, SV.ids] at * <;> exact h

def softL : List Kp → List SV → List SV
  | k :: ks, v :: vs => (match k with
    | .soft => soft1 v
    | _ => v) :: softL ks vs
  | _, vs => vs

def junkL : List Kp → Nat → List SV → List SV
  | k :: ks, i, v :: vs => (match k with
    | .junk => .junk i
    | _ => v) :: junkL ks (i + 1) vs
  | _, _, vs => vs

def njK : List Kp → List SV → Bool
  | k :: ks, v :: vs => (match k with
    | .junk => true
    | _ => Sx.nj v) && njK ks vs
  | _, vs => njL vs

def memNj (m : Mem) : Mem → Bool
  | [] => true
  | (_, b) :: r => b.nj && memNj m r
def keyIn (i : Nat) : Mem → Bool
  | [] => false
  | (j, _) :: r => Nat.beq j i || keyIn i r
def keysOk : Mem → Bool
  | [] => true
  | (i, _) :: r => !(keyIn i r) && keysOk r

/-- What is kept at a loop's head: of the slots; how many blocks; the next block's name. -/
structure Fg where
  ks : List Kp
  mm : Nat
  nx : Nat

def forget (f : Fg) (S : St) : St := ⟨junkL f.ks 0 (softL f.ks S.tmps), S.mem.take f.mm, f.nx⟩
def keepOk (f : Fg) (S : St) : Bool := njK f.ks (softL f.ks S.tmps) && memNj S.mem (S.mem.take f.mm) && keysOk S.mem && idsLB (S.mem.take f.mm) (junkL f.ks 0 (softL f.ks S.tmps)) && memIds (S.mem.take f.mm) (S.mem.take f.mm)

theorem softL_den (ρ : Env) : ∀ (ks : List Kp) (vs : List SV), denL ρ (softL ks vs) = denL ρ vs
  | [], vs => by simp [softL]
  | _ :: _, [] => by simp [softL]
  | k :: ks, v :: vs => by
    simp only [softL, denL, softL_den ρ ks vs]
    congr 1
    split
    · exact soft1_den ρ v
    · rfl
theorem softL_wf : ∀ (ks : List Kp) (vs : List SV), (∀ v ∈ vs, wf v) → ∀ v ∈ softL ks vs, wf v
  | [], vs, h => by simpa [softL] using h
  | _ :: _, [], h => by simp [softL]
  | k :: ks, v :: vs, h => by
    intro u hu
    simp only [softL, List.mem_cons] at hu
    rcases hu with rfl | hu
    · split
      · exact soft1_wf (h _ (by simp))
      · exact h _ (by simp)
    · exact softL_wf ks vs (fun x hx => h x (by simp [hx])) u hu
theorem softL_ids (p : Nat → Prop) : ∀ (ks : List Kp) (vs : List SV), idsL p vs → idsL p (softL ks vs)
  | [], vs, h => by simpa [softL] using h
  | _ :: _, [], h => by simpa [softL] using h
  | k :: ks, v :: vs, h => by
    simp only [softL, idsL] at *
    refine ⟨?_, softL_ids p ks vs h.2⟩
    split
    · exact soft1_ids h.1
    · exact h.1

theorem Rel.soft {Γ : Gam} {ρ : Env} {S : St} {a : Act} {w : World} (ks : List Kp) (h : Rel Γ ρ S a w) : Rel Γ ρ { S with tmps := softL ks S.tmps } a w :=
  ⟨by rw [h.tm, softL_den], h.df, h.mem, h.dj, h.below, h.pin, h.nx, softL_wf ks _ h.wfT, softL_ids _ ks _ h.idT⟩

theorem slotsW_refl : ∀ (i : Nat) (vs : List SV), njL vs = true → slotsW i vs vs
  | _, [], _ => trivial
  | i, v :: vs, h => by
    simp only [njL, Bool.and_eq_true] at h
    simp only [slotsW]
    refine ⟨?_, slotsW_refl (i + 1) vs h.2⟩
    cases v <;> first | exact ⟨rfl, h.1⟩ | (simp [Sx.nj] at h)

theorem slotsW_junkL : ∀ (ks : List Kp) (i : Nat) (vs : List SV), njK ks vs = true → slotsW i vs (junkL ks i vs)
  | [], i, vs, h => by simp only [junkL]; simp only [njK] at h; exact slotsW_refl i vs h
  | _ :: _, i, [], h => trivial
  | k :: ks, i, v :: vs, h => by
    simp only [njK, Bool.and_eq_true] at h
    simp only [junkL, slotsW]
    refine ⟨?_, slotsW_junkL ks (i + 1) vs h.2⟩
    cases k with
    | junk => rfl
    | keep => cases v <;> first | exact ⟨rfl, h.1⟩ | (simp [Sx.nj] at h)
    | soft => cases v <;> first | exact ⟨rfl, h.1⟩ | (simp [Sx.nj] at h)

theorem look_key : ∀ {m : Mem} {i : Nat} {b : Blk}, (i, b) ∈ m → keysOk m = true → look m i = some b
  | (j, c) :: r, i, b, h, hk => by
    simp only [keysOk, Bool.and_eq_true, Bool.not_eq_true'] at hk
    simp only [look]
    rcases List.mem_cons.1 h with e | h
    · cases e; simp
    · have : Nat.beq j i = false := by
        cases hb : Nat.beq j i with
        | false => rfl
        | true =>
          have := Nat.eq_of_beq_eq_true hb
          subst this
          have key : ∀ (l : Mem), (j, b) ∈ l → keyIn j l = true := by
            intro l
            induction l with
            | nil => intro h; cases h
            | cons x l ih =>
              intro h
              obtain ⟨x1, x2⟩ := x
              simp only [keyIn, Bool.or_eq_true]
              rcases List.mem_cons.1 h with e | h
              · cases e; exact .inl (by simp)
              · exact .inr (ih h)
          rw [key r h] at hk
          exact absurd hk.1 (by simp)
      simp only [this]
      exact look_key h hk.2

theorem memW_refl (m : Mem) : ∀ l : Mem, (∀ x ∈ l, x ∈ m) → keysOk m = true → memNj m l = true → memW m l
  | [], _, _, _ => trivial
  | (i, b) :: r, hl, hk, h => by
    simp only [memNj, Bool.and_eq_true] at h
    exact ⟨look_key (hl _ (by simp)) hk, h.1, memW_refl m r (fun x hx => hl x (by simp [hx])) hk h.2⟩

theorem forget_weak {f : Fg} {S : St} (h : keepOk f S = true) : Weak { S with tmps := softL f.ks S.tmps } (forget f S) := by
  simp only [keepOk, Bool.and_eq_true] at h
  obtain ⟨⟨⟨⟨h1, h2⟩, h3⟩, h4⟩, h5⟩ := h
  exact ⟨slotsW_junkL f.ks 0 _ h1, memW_refl _ _ (fun _ hx => List.mem_of_mem_take hx) h3 h2, h4, h5⟩

theorem Rel.forget {Γ : Gam} {ρ : Env} {S : St} {a : Act} {w : World} {f : Fg} (h : Rel Γ ρ S a w) (hk : keepOk f S = true) (hn : Γ.n0 ≤ f.nx) : ∃ ρ', Rel Γ ρ' (Sx.forget f S) a w :=
  (h.soft f.ks).weaken (forget_weak hk) hn

def ifT {α : Type} (b : Bool) (t : T α) : T α := match b with
  | true => t
  | false => .fail "not kept"

theorem ifT_good {α : Type} {b : Bool} {t : T α} {Q : α → Prop} (h : (ifT b t).good Q) : b = true ∧ t.good Q := by
  cases b with
  | true => exact ⟨rfl, h⟩
  | false => exact h.elim
theorem ifT_reach {α : Type} {b : Bool} {t : T α} {x : α} (h : T.Reach (ifT b t) x) : b = true ∧ T.Reach t x := by
  cases b with
  | true => exact ⟨rfl, h⟩
  | false => exact (T.reach_fail h).elim

/-- What a round comes to. -/
def endOf (ks js : Fg) (t : T (Ex × St)) : T (Ex × St) := t.bind fun r => match r.1 with
  | .normal => ifT (keepOk ks r.2) (.ret (.normal, Sx.forget ks r.2))
  | .exit j => ifT (keepOk js r.2) (.ret (.exit j, Sx.forget js r.2))
  | .ret => .fail "a round returns"

def loopF (ks : Fg) (start out : St) (S : St) : T (Ex × St) := ifT (keepOk ks S) (.need (Sx.forget ks S = start) (.ret (.normal, out)))

section
variable {P : Program} {Γ : Gam} {cx : Cx} {draw : Array Oper → St → T St} {bl : Blocks}

/-- **A loop as a rule.** -/
theorem loop_rule (hc : CxOk P Γ.G cx) (hg : GlobOk Γ) (h0 : Γ.G Γ.w0) (hd : DrawOk P Γ draw) {id : Nat} {body : Code} (hbl : BlocksIn P Γ bl body) {ι : Type} (Inv : ι → St) (μ : ι → Nat) (ok : ι → Prop) (Out : St) (fuel : Nat) (ks js : Fg)
    (hn : Γ.n0 ≤ ks.nx) (hno : Γ.n0 ≤ js.nx)
    (round : ∀ i, ok i → (endOf ks js (exec cx draw bl fuel body (Inv i))).good fun r => match r.1 with
      | .normal => ∃ i', ok i' ∧ r.2 = Inv i' ∧ μ i' < μ i
      | .exit j => j = id ∧ r.2 = Out
      | .ret => False) (i : ι) (hi : ok i) :
    ∀ S e S', T.Reach (loopF ks (Inv i) Out S) (e, S') → Comes P Γ (.block id (.loop body)) S e S' := by
  have key : ∀ (n : Nat) (i : ι), μ i ≤ n → ok i → ∀ ρ a w, Rel Γ ρ (Inv i) a w → Code.rounds P body (Exit.inBlock id fun x a' w' => x = Ex.normal.to ∧ ∃ ρ', Rel Γ ρ' Out a' w') (n + 1) a w := by
    intro n
    induction n with
    | zero =>
      intro i hle hi ρ a w hrel
      rw [rounds_succ]
      have hround := round i hi
      unfold endOf at hround
      rw [T.good_bind] at hround
      obtain ⟨⟨e, S1⟩, hr, hq⟩ := T.reach_of_good hround
      refine wp_mono ((exec_sound hc hg h0 hd fuel).1 body _ S1 e hbl hr ρ a w hrel) fun x a' w' ⟨hx, ρ', hr'⟩ => ?_
      subst hx
      cases e with
      | normal =>
        have hq := (ifT_good hq).2
        obtain ⟨i', -, -, hlt⟩ := hq; omega
      | exit j =>
        have hq := ifT_good hq
        obtain ⟨hk, hj, ho⟩ := hq
        simp only [Ex.to, Exit.then, Exit.inBlock]
        rw [if_pos hj]
        simp only at ho
        rw [← ho]
        exact ⟨trivial, hr'.forget hk hno⟩
      | ret => exact hq.elim
    | succ n ih =>
      intro i hle hi ρ a w hrel
      rw [rounds_succ]
      have hround := round i hi
      unfold endOf at hround
      rw [T.good_bind] at hround
      obtain ⟨⟨e, S1⟩, hr, hq⟩ := T.reach_of_good hround
      refine wp_mono ((exec_sound hc hg h0 hd fuel).1 body _ S1 e hbl hr ρ a w hrel) fun x a' w' ⟨hx, ρ', hr'⟩ => ?_
      subst hx
      cases e with
      | normal =>
        have hq := ifT_good hq
        obtain ⟨hk, i', hi', he, hlt⟩ := hq
        obtain ⟨ρ2, hr2⟩ := hr'.forget hk hn
        simp only at he
        rw [he] at hr2
        exact ih i' (by omega) hi' ρ2 a' w' hr2
      | exit j =>
        have hq := ifT_good hq
        obtain ⟨hk, hj, ho⟩ := hq
        simp only [Ex.to, Exit.then, Exit.inBlock]
        rw [if_pos hj]
        simp only at ho
        rw [← ho]
        exact ⟨trivial, hr'.forget hk hno⟩
      | ret => exact hq.elim
  intro S e S' hreach ρ a w hrel
  have hreach := ifT_reach hreach
  simp only [T.reach_need, T.reach_ret] at hreach
  obtain ⟨hk, hs, he⟩ := hreach
  cases he
  obtain ⟨ρ2, hr2⟩ := hrel.forget hk hn
  rw [hs] at hr2
  exact wp_block (wp_loop_rounds (μ i + 1) (key (μ i) i (Nat.le_refl _) hi ρ2 a w hr2))
end

/-- The bodies of the blocks of one name. -/
def blksL : Code → Nat → List Code
  | .seq a b, i => blksL a i ++ blksL b i
  | .cond _ a b, i => blksL a i ++ blksL b i
  | .block j b, i => match Nat.beq j i with
    | true => b :: blksL b i
    | false => blksL b i
  | .loop b, i => blksL b i
  | .scope b, i => blksL b i
  | _, _ => []

theorem blocksIn_of {P : Program} {Γ : Gam} {bl : Blocks} : ∀ c : Code, (∀ id f, bl id = some f → ∀ b ∈ blksL c id, ∀ S e S', T.Reach (f S) (e, S') → Comes P Γ (.block id b) S e S') → BlocksIn P Γ bl c := by
  intro c
  induction c with
  | seq a b iha ihb => exact fun h => ⟨iha fun id f hf x hx => h id f hf x (by simp [blksL, hx]), ihb fun id f hf x hx => h id f hf x (by simp [blksL, hx])⟩
  | cond c a b iha ihb => exact fun h => ⟨iha fun id f hf x hx => h id f hf x (by simp [blksL, hx]), ihb fun id f hf x hx => h id f hf x (by simp [blksL, hx])⟩
  | block j b ih =>
    intro h
    simp only [BlocksIn]
    split
    · rename_i f hf
      exact h j f hf b (by simp [blksL])
    · refine ih fun id f hf x hx => h id f hf x ?_
      simp only [blksL]
      split
      · simp [hx]
      · exact hx
  | loop b ih => exact fun h => ih h
  | scope b ih => exact fun h => ih h
  | _ => intro _; trivial

theorem fn_ok_den {P : Program} {G : World → Prop} {cx : Cx} (hc : CxOk P G cx) {gm : Mem} (hgm : GlobIs G gm) {f : FuncId} {fn : Func} {c : Code} (hf : P.funcs[f]? = some fn) (hb : fn.body = some c) {bl : Blocks} {fuel : Nat} {args : List SV} {v : SV}
    (hargs : ∀ x ∈ args, Closed x) (hv : Closed v) (hbl : ∀ Γ : Gam, Γ.G = G → Γ.G Γ.w0 → GlobOk Γ → Γ.n0 = 0 → BlocksIn P Γ bl c)
    (hr : (runFn cx (drawS cx) bl fuel c fn.ntmps fn.results.toList args gm 0).good fun r => ∀ ρ, r.1.den ρ = v.den ρ) (ρ : Env) (w : World) (hw : G w) :
    Calls P f (denL ρ args).toArray w (fun e w' => e = .returned (v.den ρ) ∧ Below w.heap.size w w') := by
  obtain ⟨⟨u, S'⟩, hreach, hu⟩ := T.reach_of_good hr
  simp only at hu
  have hrel := entry_rel hgm hargs fn.ntmps ρ w hw
  have hg : GlobOk ⟨w, ⟨fun i => i - 1000000, fun _ => 0, fun _ => 0, ρ.junk⟩, 0, G⟩ := fun g => ⟨by simp [gid], rfl⟩
  have hcall := runFn_sound (Γ := ⟨w, ⟨fun i => i - 1000000, fun _ => 0, fun _ => 0, ρ.junk⟩, 0, G⟩) hc hg hw (drawS_sound hc hg hw) hf hb (hbl _ rfl hw hg rfl) hreach hrel
  have hden : (denL ⟨fun i => i - 1000000, fun _ => 0, fun _ => 0, ρ.junk⟩ args) = denL ρ args := by
    rw [denL_eq, denL_eq]
    exact List.map_congr_left fun x hx => (hargs x hx).den _ _
  rw [hden] at hcall
  exact hcall.mono fun e w' ⟨ρ', a', he, hr'⟩ => ⟨by rw [he, hu, hv.den ρ' ρ], hr'.below⟩

/-- **A function's contract, by its run, with rules for its loops.** -/
theorem fnOk_lp {P : Program} {G : World → Prop} {cx : Cx} (hc : CxOk P G cx) {gm : Mem} (hgm : GlobIs G gm) {g : FuncId} {fn : Func} {c : Code} (hf : P.funcs[g]? = some fn) (hb : fn.body = some c) (hent : ∀ args w, (callFunc g args).run P w = .ok (.enter g args) w)
    {fuel : Nat} {ks : List AK} {pre : List AV → Prop} {ks' : List AK} {res : List AV → List AV}
    (h : ∀ as, fit ks as → pre as → ∃ bl : Blocks, (∀ Γ : Gam, Γ.G = G → Γ.G Γ.w0 → GlobOk Γ → Γ.n0 = 0 → BlocksIn P Γ bl c) ∧ fit ks' (res as) ∧ (runX cx bl fuel fn c (can ks as) gm).good fun u => u = outV ks' (res as)) : FnOk P G g (ct ks pre ks' res) := by
  refine ⟨fun args v hw hr => ?_, fun args v hr p => ?_, hent, fun args v hw hr ρ w hG => ?_⟩
  · obtain ⟨as, ha, hr⟩ := spG_reach hr
    simp only [ctF, T.reach_need, T.reach_ret] at hr
    obtain ⟨hp, rfl⟩ := hr
    obtain ⟨bl, -, h1, -⟩ := h as (parse_spec ha hw).1 hp
    exact outV_closed h1
  · obtain ⟨as, ha, hr⟩ := spG_reach hr
    simp only [ctF, T.reach_need, T.reach_ret] at hr
    obtain ⟨-, rfl⟩ := hr
    exact outV_ids _ _ _
  · obtain ⟨as, ha, hr⟩ := spG_reach hr
    simp only [ctF, T.reach_need, T.reach_ret] at hr
    obtain ⟨hp, rfl⟩ := hr
    obtain ⟨h1, h2, h3⟩ := parse_spec ha hw
    obtain ⟨bl, hbl, h4, hrun⟩ := h as h1 hp
    rw [← h2 ρ]
    exact fn_ok hc hgm hf hb h3 (outV_closed h4) hbl (valOf_good hrun) ρ w hG

/-- **A function's contract, by its run, with rules for its loops; the value as it reads.** -/
theorem fnOk_den {P : Program} {G : World → Prop} {cx : Cx} (hc : CxOk P G cx) {gm : Mem} (hgm : GlobIs G gm) {g : FuncId} {fn : Func} {c : Code} (hf : P.funcs[g]? = some fn) (hb : fn.body = some c) (hent : ∀ args w, (callFunc g args).run P w = .ok (.enter g args) w)
    {fuel : Nat} {ks : List AK} {pre : List AV → Prop} {ks' : List AK} {res : List AV → List AV}
    (h : ∀ as, fit ks as → pre as → ∃ bl : Blocks, (∀ Γ : Gam, Γ.G = G → Γ.G Γ.w0 → GlobOk Γ → Γ.n0 = 0 → BlocksIn P Γ bl c) ∧ fit ks' (res as) ∧ (runX cx bl fuel fn c (can ks as) gm).good fun u => ∀ ρ, u.den ρ = (outV ks' (res as)).den ρ) : FnOk P G g (ct ks pre ks' res) := by
  refine ⟨fun args v hw hr => ?_, fun args v hr p => ?_, hent, fun args v hw hr ρ w hG => ?_⟩
  · obtain ⟨as, ha, hr⟩ := spG_reach hr
    simp only [ctF, T.reach_need, T.reach_ret] at hr
    obtain ⟨hp, rfl⟩ := hr
    obtain ⟨bl, -, h1, -⟩ := h as (parse_spec ha hw).1 hp
    exact outV_closed h1
  · obtain ⟨as, ha, hr⟩ := spG_reach hr
    simp only [ctF, T.reach_need, T.reach_ret] at hr
    obtain ⟨-, rfl⟩ := hr
    exact outV_ids _ _ _
  · obtain ⟨as, ha, hr⟩ := spG_reach hr
    simp only [ctF, T.reach_need, T.reach_ret] at hr
    obtain ⟨hp, rfl⟩ := hr
    obtain ⟨h1, h2, h3⟩ := parse_spec ha hw
    obtain ⟨bl, hbl, h4, hrun⟩ := h as h1 hp
    rw [← h2 ρ]
    exact fn_ok_den hc hgm hf hb h3 (outV_closed h4) hbl (valOf_good hrun) ρ w hG
/-- One side of each branch, as a list tells; what is not taken is owed. -/
def prune {α : Type} : T α → List Bool → T α
  | .ret a, _ => .ret a
  | .fail s, _ => .fail s
  | .need p t, ds => .need p (prune t ds)
  | .ite b t e, [] => .ite b t e
  | .ite b t e, d :: ds => match d with
    | true => .need (b = true) (prune t ds)
    | false => .need (b = false) (prune e ds)

theorem good_of_prune {α : Type} {Q : α → Prop} : ∀ (t : T α) (ds : List Bool), (prune t ds).good Q → t.good Q
  | .ret a, _, h => h
  | .fail s, _, h => h
  | .need p t, ds, h => ⟨h.1, good_of_prune t ds h.2⟩
  | .ite b t e, [], h => h
  | .ite b t e, d :: ds, h => by
    cases d with
    | true =>
      obtain ⟨hb, h⟩ := h
      subst hb
      exact ⟨fun _ => good_of_prune t ds h, fun hc => by cases hc⟩
    | false =>
      obtain ⟨hb, h⟩ := h
      subst hb
      exact ⟨fun hc => (by cases hc), fun _ => good_of_prune e ds h⟩

/-- A premise, so often as it is asked. -/
def dup {α : Type} : Nat → Prop → T α → T α
  | 0, _, t => t
  | n + 1, p, t => .need p (dup n p t)

theorem dup_good {α : Type} {Q : α → Prop} {p : Prop} {t : T α} (hp : p) (h : t.good Q) : ∀ n, (dup n p t).good Q
  | 0 => h
  | n + 1 => ⟨hp, dup_good hp h n⟩
end Go.Sx
