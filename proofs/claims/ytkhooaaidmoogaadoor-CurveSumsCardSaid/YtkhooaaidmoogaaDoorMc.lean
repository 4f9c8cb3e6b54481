import Derived.Test.YtkhooaaidmoogaaDoorMb
import Derived.ProofKit
import Derived.LaidMore
import Derived.OpenShut
import Derived.Stop.Joined
import Derived.JoinedOf
import Derived.RowKit
import Derived.Carry
import Derived.ChangeCalls
/- The symbolic layer: loops as rules. A round's end is brought to the invariant's form by forgetting. -/
namespace Go.Sx
open Go.RowKit (Below)

inductive Kp where
  | keep | junk | soft

def soft1 : SV → SV
  | .lit k n => .int k n
  | .tt => .bool true
  | .ff => .bool false
  | v => v

theorem soft1_den (ρ : Env) (v : SV) : (soft1 v).den ρ = v.den ρ := by cases v <;> simp [soft1, SV.den]
theorem soft1_wf {v : SV} (h : wf v) : wf (soft1 v) := by cases v <;> simp only [soft1, wf] at * <;> exact h
theorem soft1_ids {v : SV} {p : Nat → Prop} (h : v.ids p) : (soft1 v).ids p := by cases v <;> simp only [soft1, SV.ids] at * <;> exact h

def softL : List Kp → List SV → List SV
  | k :: ks, v :: vs => (match k with
    | .soft => soft1 v
    | _ => v) :: softL ks vs
  | _, vs => vs

def junkL : List Kp → Nat → List SV → List SV
  | k :: ks, i, v :: vs => (match k with
    | .junk => .junk i
    | _ => v) :: junkL ks (i + 1) vs
  | _, _, vs => vs

def njK : List Kp → List SV → Bool
  | k :: ks, v :: vs => (match k with
    | .junk => true
    | _ => Sx.nj v) && njK ks vs
  | _, vs => njL vs

def memNj (m : Mem) : Mem → Bool
  | [] => true
  | (_, b) :: r => b.nj && memNj m r
def keyIn (i : Nat) : Mem → Bool
  | [] => false
  | (j, _) :: r => Nat.beq j i || keyIn i r
def keysOk : Mem → Bool
  | [] => true
  | (i, _) :: r => !(keyIn i r) && keysOk r

/-- What is kept at a loop's head: of the slots; how many blocks; the next block's name. -/
structure Fg where
  ks : List Kp
  mm : Nat
  nx : Nat

def forget (f : Fg) (S : St) : St := ⟨junkL f.ks 0 (softL f.ks S.tmps), S.mem.take f.mm, f.nx⟩
def keepOk (f : Fg) (S : St) : Bool := njK f.ks (softL f.ks S.tmps) && memNj S.mem (S.mem.take f.mm) && keysOk S.mem && idsLB (S.mem.take f.mm) (junkL f.ks 0 (softL f.ks S.tmps)) && memIds (S.mem.take f.mm) (S.mem.take f.mm)

theorem softL_den (ρ : Env) : ∀ (ks : List Kp) (vs : List SV), denL ρ (softL ks vs) = denL ρ vs
  | [], vs => by simp [softL]
  | _ :: _, [] => by simp [softL]
  | k :: ks, v :: vs => by
    simp only [softL, denL, softL_den ρ ks vs]
    congr 1
    split
    · exact soft1_den ρ v
    · rfl
theorem softL_wf : ∀ (ks : List Kp) (vs : List SV), (∀ v ∈ vs, wf v) → ∀ v ∈ softL ks vs, wf v
  | [], vs, h => by simpa [softL] using h
  | _ :: _, [], h => by simp [softL]
  | k :: ks, v :: vs, h => by
    intro u hu
    simp only [softL, List.mem_cons] at hu
    rcases hu with rfl | hu
    · split
      · exact soft1_wf (h _ (by simp))
      · exact h _ (by simp)
    · exact softL_wf ks vs (fun x hx => h x (by simp [hx])) u hu
theorem softL_ids (p : Nat → Prop) : ∀ (ks : List Kp) (vs : List SV), idsL p vs → idsL p (softL ks vs)
  | [], vs, h => by simpa [softL] using h
  | _ :: _, [], h => by simpa [softL] using h
  | k :: ks, v :: vs, h => by
    simp only [softL, idsL] at *
    refine ⟨?_, softL_ids p ks vs h.2⟩
    split
    · exact soft1_ids h.1
    · exact h.1

theorem Rel.soft {Γ : Gam} {ρ : Env} {S : St} {a : Act} {w : World} (ks : List Kp) (h : Rel Γ ρ S a w) : Rel Γ ρ { S with tmps := softL ks S.tmps } a w :=
  ⟨by rw [h.tm, softL_den], h.df, h.mem, h.dj, h.below, h.pin, h.nx, softL_wf ks _ h.wfT, softL_ids _ ks _ h.idT⟩

theorem slotsW_refl : ∀ (i : Nat) (vs : List SV), njL vs = true → slotsW i vs vs
  | _, [], _ => trivial
  | i, v :: vs, h => by
    simp only [njL, Bool.and_eq_true] at h
    simp only [slotsW]
    refine ⟨?_, slotsW_refl (i + 1) vs h.2⟩
    cases v <;> first | exact ⟨rfl, h.1⟩ | (simp [Sx.nj] at h)

theorem slotsW_junkL : ∀ (ks : List Kp) (i : Nat) (vs : List SV), njK ks vs = true → slotsW i vs (junkL ks i vs)
  | [], i, vs, h => by simp only [junkL]; simp only [njK] at h; exact slotsW_refl i vs h
  | _ :: _, i, [], h => trivial
  | k :: ks, i, v :: vs, h => by
    simp only [njK, Bool.and_eq_true] at h
    simp only [junkL, slotsW]
    refine ⟨?_, slotsW_junkL ks (i + 1) vs h.2⟩
    cases k with
    | junk => rfl
    | keep => cases v <;> first | exact ⟨rfl, h.1⟩ | (simp [Sx.nj] at h)
    | soft => cases v <;> first | exact ⟨rfl, h.1⟩ | (simp [Sx.nj] at h)

theorem look_key : ∀ {m : Mem} {i : Nat} {b : Blk}, (i, b) ∈ m → keysOk m = true → look m i = some b
  | (j, c) :: r, i, b, h, hk => by
    simp only [keysOk, Bool.and_eq_true, Bool.not_eq_true'] at hk
    simp only [look]
    rcases List.mem_cons.1 h with e | h
    · cases e; simp
    · have : Nat.beq j i = false := by
        cases hb : Nat.beq j i with
        | false => rfl
        | true =>
          have := Nat.eq_of_beq_eq_true hb
          subst this
          have key : ∀ (l : Mem), (j, b) ∈ l → keyIn j l = true := by
            intro l
            induction l with
            | nil => intro h; cases h
            | cons x l ih =>
              intro h
              obtain ⟨x1, x2⟩ := x
              simp only [keyIn, Bool.or_eq_true]
              rcases List.mem_cons.1 h with e | h
              · cases e; exact .inl (by simp)
              · exact .inr (ih h)
          rw [key r h] at hk
          exact absurd hk.1 (by simp)
      simp only [this]
      exact look_key h hk.2

theorem memW_refl (m : Mem) : ∀ l : Mem, (∀ x ∈ l, x ∈ m) → keysOk m = true → memNj m l = true → memW m l
  | [], _, _, _ => trivial
  | (i, b) :: r, hl, hk, h => by
    simp only [memNj, Bool.and_eq_true] at h
    exact ⟨look_key (hl _ (by simp)) hk, h.1, memW_refl m r (fun x hx => hl x (by simp [hx])) hk h.2⟩

theorem forget_weak {f : Fg} {S : St} (h : keepOk f S = true) : Weak { S with tmps := softL f.ks S.tmps } (forget f S) := by
  simp only [keepOk, Bool.and_eq_true] at h
  obtain ⟨⟨⟨⟨h1, h2⟩, h3⟩, h4⟩, h5⟩ := h
  exact ⟨slotsW_junkL f.ks 0 _ h1, memW_refl _ _ (fun _ hx => List.mem_of_mem_take hx) h3 h2, h4, h5⟩

theorem Rel.forget {Γ : Gam} {ρ : Env} {S : St} {a : Act} {w : World} {f : Fg} (h : Rel Γ ρ S a w) (hk : keepOk f S = true) (hn : Γ.n0 ≤ f.nx) : ∃ ρ', Rel Γ ρ' (Sx.forget f S) a w :=
  (h.soft f.ks).weaken (forget_weak hk) hn

def ifT {α : Type} (b : Bool) (t : T α) : T α := match b with
  | true => t
  | false => .fail "not kept"

theorem ifT_good {α : Type} {b : Bool} {t : T α} {Q : α → Prop} (h : (ifT b t).good Q) : b = true ∧ t.good Q := by
  cases b with
  | true => exact ⟨rfl, h⟩
  | false => exact h.elim
theorem ifT_reach {α : Type} {b : Bool} {t : T α} {x : α} (h : T.Reach (ifT b t) x) : b = true ∧ T.Reach t x := by
  cases b with
  | true => exact ⟨rfl, h⟩
  | false => exact (T.reach_fail h).elim

/-- What a round comes to. -/
def endOf (ks js : Fg) (t : T (Ex × St)) : T (Ex × St) := t.bind fun r => match r.1 with
  | .normal => ifT (keepOk ks r.2) (.ret (.normal, Sx.forget ks r.2))
  | .exit j => ifT (keepOk js r.2) (.ret (.exit j, Sx.forget js r.2))
  | .ret => .fail "a round returns"

def loopF (ks : Fg) (start out : St) (S : St) : T (Ex × St) := ifT (keepOk ks S) (.need (Sx.forget ks S = start) (.ret (.normal, out)))

section
variable {P : Program} {Γ : Gam} {cx : Cx} {draw : Array Oper → St → T St} {bl : Blocks}

/-- **A loop as a rule.** -/
theorem loop_rule (hc : CxOk P Γ.G cx) (hg : GlobOk Γ) (h0 : Γ.G Γ.w0) (hd : DrawOk P Γ draw) {id : Nat} {body : Code} (hbl : BlocksIn P Γ bl body) {ι : Type} (Inv : ι → St) (μ : ι → Nat) (ok : ι → Prop) (Out : St) (fuel : Nat) (ks js : Fg)
    (hn : Γ.n0 ≤ ks.nx) (hno : Γ.n0 ≤ js.nx)
    (round : ∀ i, ok i → (endOf ks js (exec cx draw bl fuel body (Inv i))).good fun r => match r.1 with
      | .normal => ∃ i', ok i' ∧ r.2 = Inv i' ∧ μ i' < μ i
      | .exit j => j = id ∧ r.2 = Out
      | .ret => False) (i : ι) (hi : ok i) :
    ∀ S e S', T.Reach (loopF ks (Inv i) Out S) (e, S') → Comes P Γ (.block id (.loop body)) S e S' := by
  have key : ∀ (n : Nat) (i : ι), μ i ≤ n → ok i → ∀ ρ a w, Rel Γ ρ (Inv i) a w → Code.rounds P body (Exit.inBlock id fun x a' w' => x = Ex.normal.to ∧ ∃ ρ', Rel Γ ρ' Out a' w') (n + 1) a w := by
    intro n
    induction n with
    | zero =>
      intro i hle hi ρ a w hrel
      rw [rounds_succ]
      have hround := round i hi
      unfold endOf at hround
      rw [T.good_bind] at hround
      obtain ⟨⟨e, S1⟩, hr, hq⟩ := T.reach_of_good hround
      refine wp_mono ((exec_sound hc hg h0 hd fuel).1 body _ S1 e hbl hr ρ a w hrel) fun x a' w' ⟨hx, ρ', hr'⟩ => ?_
      subst hx
      cases e with
      | normal =>
        have hq := (ifT_good hq).2
        obtain ⟨i', -, -, hlt⟩ := hq; omega
      | exit j =>
        have hq := ifT_good hq
        obtain ⟨hk, hj, ho⟩ := hq
        simp only [Ex.to, Exit.then, Exit.inBlock]
        rw [if_pos hj]
        simp only at ho
        rw [← ho]
        exact ⟨trivial, hr'.forget hk hno⟩
      | ret => exact hq.elim
    | succ n ih =>
      intro i hle hi ρ a w hrel
      rw [rounds_succ]
      have hround := round i hi
      unfold endOf at hround
      rw [T.good_bind] at hround
      obtain ⟨⟨e, S1⟩, hr, hq⟩ := T.reach_of_good hround
      refine wp_mono ((exec_sound hc hg h0 hd fuel).1 body _ S1 e hbl hr ρ a w hrel) fun x a' w' ⟨hx, ρ', hr'⟩ => ?_
      subst hx
      cases e with
      | normal =>
        have hq := ifT_good hq
        obtain ⟨hk, i', hi', he, hlt⟩ := hq
        obtain ⟨ρ2, hr2⟩ := hr'.forget hk hn
        simp only at he
        rw [he] at hr2
        exact ih i' (by omega) hi' ρ2 a' w' hr2
      | exit j =>
        have hq := ifT_good hq
        obtain ⟨hk, hj, ho⟩ := hq
        simp only [Ex.to, Exit.then, Exit.inBlock]
        rw [if_pos hj]
        simp only at ho
        rw [← ho]
        exact ⟨trivial, hr'.forget hk hno⟩
      | ret => exact hq.elim
  intro S e S' hreach ρ a w hrel
  have hreach := ifT_reach hreach
  simp only [T.reach_need, T.reach_ret] at hreach
  obtain ⟨hk, hs, he⟩ := hreach
  cases he
  obtain ⟨ρ2, hr2⟩ := hrel.forget hk hn
  rw [hs] at hr2
  exact wp_block (wp_loop_rounds (μ i + 1) (key (μ i) i (Nat.le_refl _) hi ρ2 a w hr2))
end

/-- The bodies of the blocks of one name. -/
def blksL : Code → Nat → List Code
  | .seq a b, i => blksL a i ++ blksL b i
  | .cond _ a b, i => blksL a i ++ blksL b i
  | .block j b, i => match Nat.beq j i with
    | true => b :: blksL b i
    | false => blksL b i
  | .loop b, i => blksL b i
  | .scope b, i => blksL b i
  | _, _ => []

theorem blocksIn_of {P : Program} {Γ : Gam} {bl : Blocks} : ∀ c : Code, (∀ id f, bl id = some f → ∀ b ∈ blksL c id, ∀ S e S', T.Reach (f S) (e, S') → Comes P Γ (.block id b) S e S') → BlocksIn P Γ bl c := by
  intro c
  induction c with
  | seq a b iha ihb => exact fun h => ⟨iha fun id f hf x hx => h id f hf x (by simp [blksL, hx]), ihb fun id f hf x hx => h id f hf x (by simp [blksL, hx])⟩
  | cond c a b iha ihb => exact fun h => ⟨iha fun id f hf x hx => h id f hf x (by simp [blksL, hx]), ihb fun id f hf x hx => h id f hf x (by simp [blksL, hx])⟩
  | block j b ih =>
    intro h
    simp only [BlocksIn]
    split
    · rename_i f hf
      exact h j f hf b (by simp [blksL])
    · refine ih fun id f hf x hx => h id f hf x ?_
      simp only [blksL]
      split
      · simp [hx]
      · exact hx
  | loop b ih => exact fun h => ih h
  | scope b ih => exact fun h => ih h
  | _ => intro _; trivial

theorem fn_ok_den {P : Program} {G : World → Prop} {cx : Cx} (hc : CxOk P G cx) {gm : Mem} (hgm : GlobIs G gm) {f : FuncId} {fn : Func} {c : Code} (hf : P.funcs[f]? = some fn) (hb : fn.body = some c) {bl : Blocks} {fuel : Nat} {args : List SV} {v : SV}
    (hargs : ∀ x ∈ args, Closed x) (hv : Closed v) (hbl : ∀ Γ : Gam, Γ.G = G → Γ.G Γ.w0 → GlobOk Γ → Γ.n0 = 0 → BlocksIn P Γ bl c)
    (hr : (runFn cx (drawS cx) bl fuel c fn.ntmps fn.results.toList args gm 0).good fun r => ∀ ρ, r.1.den ρ = v.den ρ) (ρ : Env) (w : World) (hw : G w) :
    Calls P f (denL ρ args).toArray w (fun e w' => e = .returned (v.den ρ) ∧ Below w.heap.size w w') := by
  obtain ⟨⟨u, S'⟩, hreach, hu⟩ := T.reach_of_good hr
  simp only at hu
  have hrel := entry_rel hgm hargs fn.ntmps ρ w hw
  have hg : GlobOk ⟨w, ⟨fun i => i - 1000000, fun _ => 0, fun _ => 0, ρ.junk⟩, 0, G⟩ := fun g => ⟨by simp [gid], rfl⟩
  have hcall := runFn_sound (Γ := ⟨w, ⟨fun i => i - 1000000, fun _ => 0, fun _ => 0, ρ.junk⟩, 0, G⟩) hc hg hw (drawS_sound hc hg hw) hf hb (hbl _ rfl hw hg rfl) hreach hrel
  have hden : (denL ⟨fun i => i - 1000000, fun _ => 0, fun _ => 0, ρ.junk⟩ args) = denL ρ args := by
    rw [denL_eq, denL_eq]
    exact List.map_congr_left fun x hx => (hargs x hx).den _ _
  rw [hden] at hcall
  exact hcall.mono fun e w' ⟨ρ', a', he, hr'⟩ => ⟨by rw [he, hu, hv.den ρ' ρ], hr'.below⟩

/-- **A function's contract, by its run, with rules for its loops.** -/
theorem fnOk_lp {P : Program} {G : World → Prop} {cx : Cx} (hc : CxOk P G cx) {gm : Mem} (hgm : GlobIs G gm) {g : FuncId} {fn : Func} {c : Code} (hf : P.funcs[g]? = some fn) (hb : fn.body = some c) (hent : ∀ args w, (callFunc g args).run P w = .ok (.enter g args) w)
    {fuel : Nat} {ks : List AK} {pre : List AV → Prop} {ks' : List AK} {res : List AV → List AV}
    (h : ∀ as, fit ks as → pre as → ∃ bl : Blocks, (∀ Γ : Gam, Γ.G = G → Γ.G Γ.w0 → GlobOk Γ → Γ.n0 = 0 → BlocksIn P Γ bl c) ∧ fit ks' (res as) ∧ (runX cx bl fuel fn c (can ks as) gm).good fun u => u = outV ks' (res as)) : FnOk P G g (ct ks pre ks' res) := by
  refine ⟨fun args v hw hr => ?_, fun args v hr p => ?_, hent, fun args v hw hr ρ w hG => ?_⟩
  · obtain ⟨as, ha, hr⟩ := spG_reach hr
    simp only [ctF, T.reach_need, T.reach_ret] at hr
    obtain ⟨hp, rfl⟩ := hr
    obtain ⟨bl, -, h1, -⟩ := h as (parse_spec ha hw).1 hp
    exact outV_closed h1
  · obtain ⟨as, ha, hr⟩ := spG_reach hr
    simp only [ctF, T.reach_need, T.reach_ret] at hr
    obtain ⟨-, rfl⟩ := hr
    exact outV_ids _ _ _
  · obtain ⟨as, ha, hr⟩ := spG_reach hr
    simp only [ctF, T.reach_need, T.reach_ret] at hr
    obtain ⟨hp, rfl⟩ := hr
    obtain ⟨h1, h2, h3⟩ := parse_spec ha hw
    obtain ⟨bl, hbl, h4, hrun⟩ := h as h1 hp
    rw [← h2 ρ]
    exact fn_ok hc hgm hf hb h3 (outV_closed h4) hbl (valOf_good hrun) ρ w hG

/-- **A function's contract, by its run, with rules for its loops; the value as it reads.** -/
theorem fnOk_den {P : Program} {G : World → Prop} {cx : Cx} (hc : CxOk P G cx) {gm : Mem} (hgm : GlobIs G gm) {g : FuncId} {fn : Func} {c : Code} (hf : P.funcs[g]? = some fn) (hb : fn.body = some c) (hent : ∀ args w, (callFunc g args).run P w = .ok (.enter g args) w)
    {fuel : Nat} {ks : List AK} {pre : List AV → Prop} {ks' : List AK} {res : List AV → List AV}
    (h : ∀ as, fit ks as → pre as → ∃ bl : Blocks, (∀ Γ : Gam, Γ.G = G → Γ.G Γ.w0 → GlobOk Γ → Γ.n0 = 0 → BlocksIn P Γ bl c) ∧ fit ks' (res as) ∧ (runX cx bl fuel fn c (can ks as) gm).good fun u => ∀ ρ, u.den ρ = (outV ks' (res as)).den ρ) : FnOk P G g (ct ks pre ks' res) := by
  refine ⟨fun args v hw hr => ?_, fun args v hr p => ?_, hent, fun args v hw hr ρ w hG => ?_⟩
  · obtain ⟨as, ha, hr⟩ := spG_reach hr
    simp only [ctF, T.reach_need, T.reach_ret] at hr
    obtain ⟨hp, rfl⟩ := hr
    obtain ⟨bl, -, h1, -⟩ := h as (parse_spec ha hw).1 hp
    exact outV_closed h1
  · obtain ⟨as, ha, hr⟩ := spG_reach hr
    simp only [ctF, T.reach_need, T.reach_ret] at hr
    obtain ⟨-, rfl⟩ := hr
    exact outV_ids _ _ _
  · obtain ⟨as, ha, hr⟩ := spG_reach hr
    simp only [ctF, T.reach_need, T.reach_ret] at hr
    obtain ⟨hp, rfl⟩ := hr
    obtain ⟨h1, h2, h3⟩ := parse_spec ha hw
    obtain ⟨bl, hbl, h4, hrun⟩ := h as h1 hp
    rw [← h2 ρ]
    exact fn_ok_den hc hgm hf hb h3 (outV_closed h4) hbl (valOf_good hrun) ρ w hG
/-- One side of each branch, as a list tells; what is not taken is owed. -/
def prune {α : Type} : T α → List Bool → T α
  | .ret a, _ => .ret a
  | .fail s, _ => .fail s
  | .need p t, ds => .need p (prune t ds)
  | .ite b t e, [] => .ite b t e
  | .ite b t e, d :: ds => match d with
    | true => .need (b = true) (prune t ds)
    | false => .need (b = false) (prune e ds)

theorem good_of_prune {α : Type} {Q : α → Prop} : ∀ (t : T α) (ds : List Bool), (prune t ds).good Q → t.good Q
  | .ret a, _, h => h
  | .fail s, _, h => h
  | .need p t, ds, h => ⟨h.1, good_of_prune t ds h.2⟩
  | .ite b t e, [], h => h
  | .ite b t e, d :: ds, h => by
    cases d with
    | true =>
      obtain ⟨hb, h⟩ := h
      subst hb
      exact ⟨fun _ => good_of_prune t ds h, fun hc => by cases hc⟩
    | false =>
      obtain ⟨hb, h⟩ := h
      subst hb
      exact ⟨fun hc => (by cases hc), fun _ => good_of_prune e ds h⟩

/-- A premise, so often as it is asked. -/
def dup {α : Type} : Nat → Prop → T α → T α
  | 0, _, t => t
  | n + 1, p, t => .need p (dup n p t)

theorem dup_good {α : Type} {Q : α → Prop} {p : Prop} {t : T α} (hp : p) (h : t.good Q) : ∀ n, (dup n p t).good Q
  | 0 => h
  | n + 1 => ⟨hp, dup_good hp h n⟩
end Go.Sx

/- The symbolic layer: contracts at points (tables), and runs in which nothing is open. -/
namespace Go.Sx

def AV.same : AV → AV → Bool
  | .n x, .n y => decide (x = y)
  | .l x, .l y => decide (x = y)
  | .b x, .b y => x == y
  | .a x, .a y => decide (x = y)
  | _, _ => false

theorem AV.same_eq {a b : AV} (h : a.same b = true) : a = b := by
  cases a <;> cases b <;> simp_all [AV.same]

def sameL : List AV → List AV → Bool
  | [], [] => true
  | a :: as, b :: bs => match a.same b with
    | true => sameL as bs
    | false => false
  | _, _ => false

theorem sameL_eq : ∀ {a b : List AV}, sameL a b = true → a = b
  | [], [], _ => rfl
  | [], _ :: _, h => by cases h
  | _ :: _, [], h => by cases h
  | a :: as, b :: bs, h => by
    simp only [sameL] at h
    split at h
    · rename_i h1; rw [AV.same_eq h1, sameL_eq h]
    · cases h

def rowAt : List (List AV × List AV) → List AV → Option (List AV)
  | [], _ => none
  | (k, v) :: l, as => match sameL k as with
    | true => some v
    | false => rowAt l as

theorem rowAt_mem : ∀ {l : List (List AV × List AV)} {as v : List AV}, rowAt l as = some v → (as, v) ∈ l
  | [], _, _, h => by cases h
  | (k, u) :: l, as, v, h => by
    simp only [rowAt] at h
    split at h
    · rename_i h1; cases h; rw [sameL_eq h1]; simp
    · exact List.mem_cons_of_mem _ (rowAt_mem h)

def tabF (ks' : List AK) (l : List (List AV × List AV)) (as : List AV) : T SV := match rowAt l as with
  | some rs => .ret (outV ks' rs)
  | none => .fail "a table without this row"

/-- **A contract at points.** -/
theorem FnOk.tab {P : Program} {G : World → Prop} {g : FuncId} {ks : List AK} {pre : List AV → Prop} {ks' : List AK} {res : List AV → List AV} (h : FnOk P G g (ct ks pre ks' res)) (l : List (List AV × List AV))
    (hl : ∀ row ∈ l, pre row.1 ∧ res row.1 = row.2) : FnOk P G g (spG ks (tabF ks' l)) := by
  have key : ∀ args v, T.Reach (spG ks (tabF ks' l) args) v → T.Reach (ct ks pre ks' res args) v := by
    intro args v hr
    obtain ⟨as, ha, hr⟩ := spG_reach hr
    unfold tabF at hr
    split at hr
    · rename_i rs hrow
      rw [T.reach_ret] at hr; subst hr
      obtain ⟨h1, h2⟩ := hl _ (rowAt_mem hrow)
      unfold ct spG
      rw [ha]
      simp only [ctF, T.reach_need, T.reach_ret]
      simp only at h1 h2
      exact ⟨h1, by rw [h2]⟩
    · exact (T.reach_fail hr).elim
  exact ⟨fun args v hw hr => h.closed args v hw (key args v hr), fun args v hr => h.ids args v (key args v hr), h.enters, fun args v hw hr => h.call args v hw (key args v hr)⟩

theorem FnOk.tab1 {P : Program} {G : World → Prop} {g : FuncId} {ks : List AK} {pre : List AV → Prop} {ks' : List AK} {res : List AV → List AV} (h : FnOk P G g (ct ks pre ks' res)) (k v : List AV) (h1 : pre k) (h2 : res k = v) :
    FnOk P G g (spG ks (tabF ks' [(k, v)])) := h.tab _ fun row hr => by
  rw [List.mem_singleton] at hr
  subst hr
  exact ⟨h1, h2⟩
theorem FnOk.tab2 {P : Program} {G : World → Prop} {g : FuncId} {ks : List AK} {pre : List AV → Prop} {ks' : List AK} {res : List AV → List AV} (h : FnOk P G g (ct ks pre ks' res)) (k v k' v' : List AV) (h1 : pre k) (h2 : res k = v) (h3 : pre k') (h4 : res k' = v') :
    FnOk P G g (spG ks (tabF ks' [(k, v), (k', v')])) := h.tab _ fun row hr => by
  simp only [List.mem_cons, List.not_mem_nil, or_false] at hr
  rcases hr with rfl | rfl
  · exact ⟨h1, h2⟩
  · exact ⟨h3, h4⟩

/-- A run in which nothing is open, and that comes to true. -/
def comesTrue : T SV → Bool
  | .ret v => match v with
    | .tt => true
    | .bool b => b
    | _ => false
  | .ite b t e => match b with
    | true => comesTrue t
    | false => comesTrue e
  | .need _ _ => false
  | .fail _ => false

theorem comesTrue_good : ∀ {t : T SV}, comesTrue t = true → t.good fun u => ∀ ρ, u.den ρ = .bool true
  | .ret v, h => by
    intro ρ
    cases v <;> simp [comesTrue] at h <;> simp [SV.den, h]
  | .ite b t e, h => by
    cases b with
    | true => exact ⟨fun _ => comesTrue_good h, fun hc => by cases hc⟩
    | false => exact ⟨fun hc => (by cases hc), fun _ => comesTrue_good h⟩
  | .need _ _, h => by cases h
  | .fail _, h => by cases h

/-- A function without arguments that answers true. -/
def upF : List SV → T SV
  | [] => .ret .tt
  | _ => .fail "arguments"

theorem upF_of {P : Program} {G : World → Prop} {cx : Cx} (hc : CxOk P G cx) {gm : Mem} (hgm : GlobIs G gm) {g : FuncId} {fn : Func} {c : Code} (hf : P.funcs[g]? = some fn) (hb : fn.body = some c) (hent : ∀ args w, (callFunc g args).run P w = .ok (.enter g args) w)
    {bl : Blocks} {fuel : Nat} (hbl : ∀ Γ : Gam, Γ.G = G → Γ.G Γ.w0 → GlobOk Γ → Γ.n0 = 0 → BlocksIn P Γ bl c)
    (h : (runX cx bl fuel fn c [] gm).good fun u => ∀ ρ, u.den ρ = .bool true) : FnOk P G g upF := by
  have ht : Closed .tt := ⟨fun _ _ => by simp [SV.den], fun _ => by simp [SV.ids], by simp only [wf]⟩
  have key : ∀ args v, T.Reach (upF args) v → args = [] ∧ v = .tt := by
    intro args v hr
    unfold upF at hr
    split at hr
    · rw [T.reach_ret] at hr; exact ⟨rfl, hr⟩
    · exact (T.reach_fail hr).elim
  refine ⟨fun args v hw hr => ?_, fun args v hr p => ?_, hent, fun args v hw hr ρ w hG => ?_⟩
  · obtain ⟨-, rfl⟩ := key args v hr; exact ht
  · obtain ⟨-, rfl⟩ := key args v hr; exact ht.ids p
  · obtain ⟨rfl, rfl⟩ := key args v hr
    have := fn_ok_den hc hgm hf hb (args := []) (v := .tt) (fun x hx => by cases hx) ht hbl (valOf_good (Q := fun u => ∀ ρ, u.den ρ = SV.den ρ .tt) (T.good_mono h fun u hu ρ => by rw [hu ρ]; simp [SV.den])) ρ w hG
    exact this
/-- 'good', shut: so that no run is unfolded where it is only handed on. -/
structure Gd {α : Type} (t : T α) (Q : α → Prop) : Prop where
  good : t.good Q

theorem Gd.of_run {α : Type} {Q : α → Prop} {t m : T α} {ds : List Bool} (h : prune t ds = m) (hm : Gd m Q) : Gd t Q := ⟨good_of_prune t ds (by rw [h]; exact hm.good)⟩
theorem Gd.of_eq {α : Type} {Q : α → Prop} {t m : T α} (h : t = m) (hm : Gd m Q) : Gd t Q := h ▸ hm
theorem Gd.of_true {t : T SV} (h : comesTrue t = true) : Gd t fun u => ∀ ρ, u.den ρ = .bool true := ⟨comesTrue_good h⟩

/-- **A function's contract, by its run, with rules for its loops; the value as it reads; the run shut.** -/
theorem fnOk_gd {P : Program} {G : World → Prop} {cx : Cx} (hc : CxOk P G cx) {gm : Mem} (hgm : GlobIs G gm) {g : FuncId} {fn : Func} {c : Code} (hf : P.funcs[g]? = some fn) (hb : fn.body = some c) (hent : ∀ args w, (callFunc g args).run P w = .ok (.enter g args) w)
    {fuel : Nat} {ks : List AK} {pre : List AV → Prop} {ks' : List AK} {res : List AV → List AV}
    (h : ∀ xs, fit ks xs → pre xs → ∃ bl : Blocks, (∀ Γ : Gam, Γ.G = G → Γ.G Γ.w0 → GlobOk Γ → Γ.n0 = 0 → BlocksIn P Γ bl c) ∧ fit ks' (res xs) ∧ Gd (runX cx bl fuel fn c (can ks xs) gm) fun u => ∀ ρ, u.den ρ = (outV ks' (res xs)).den ρ) : FnOk P G g (ct ks pre ks' res) :=
  fnOk_den hc hgm hf hb hent fun xs h1 h2 => by
    obtain ⟨bl, h3, h4, h5⟩ := h xs h1 h2
    exact ⟨bl, h3, h4, h5.good⟩

theorem fit_l3 {k k' k'' : IntKind} {n n' n'' : Nat} {xs : List AV} (h : fit [.ints k n, .ints k' n', .ints k'' n''] xs) : ∃ a b c, xs = [.l a, .l b, .l c] ∧ a.length = n ∧ b.length = n' ∧ c.length = n'' := by
  match xs, h with
  | [a, b, c], h =>
    obtain ⟨h1, h2, h3, -⟩ := h
    cases a <;> cases b <;> cases c <;> first | exact ⟨_, _, _, rfl, h1, h2, h3⟩ | exact h1.elim | exact h2.elim | exact h3.elim
  | [], h => exact h.elim
  | [_], h => exact h.2.elim
  | [_, _], h => exact h.2.2.elim
  | _ :: _ :: _ :: _ :: _, h => exact h.2.2.2.elim

theorem fit_l4 {k k' k'' k''' : IntKind} {n n' n'' n''' : Nat} {xs : List AV} (h : fit [.ints k n, .ints k' n', .ints k'' n'', .ints k''' n'''] xs) : ∃ a b c d, xs = [.l a, .l b, .l c, .l d] ∧ a.length = n ∧ b.length = n' ∧ c.length = n'' ∧ d.length = n''' := by
  match xs, h with
  | a :: l, h =>
    obtain ⟨b, c, d, rfl, h2, h3, h4⟩ := fit_l3 (xs := l) h.2
    have h1 := h.1
    cases a <;> first | exact ⟨_, _, _, _, rfl, h1, h2, h3, h4⟩ | exact h1.elim
  | [], h => exact h.elim
theorem fit_0 {xs : List AV} (h : fit [] xs) : xs = [] := by
  cases xs with
  | nil => rfl
  | cons a l => exact h.elim
end Go.Sx

/- The symbolic layer: functions that are walked into where they are called (closures that write what they hold). -/
namespace Go.Sx
open Go.RowKit (Below)

/-- Names are below the next one, or a variable's. -/
def namesOk (n : Nat) : Mem → Bool
  | [] => true
  | (i, _) :: m => (match Nat.blt i n with
    | true => true
    | false => Nat.ble 1000000 i) && namesOk n m

def plainB : SV → Bool
  | .lit _ _ | .int _ _ | .tt | .ff | .bool _ => true
  | .tup [] => true
  | _ => false

def inlOkB (S : St) (v : SV) (S2 : St) : Bool := namesOk S.next S.mem && plainB v && memNj S2.mem S2.mem && keysOk S2.mem && idsLB S2.mem S.tmps && memIds S2.mem S2.mem

/-- A function walked into. -/
def inlFn (cx : Cx) (bl : Blocks) (fuel : Nat) (fn : Func) (c : Code) (args : List SV) (S : St) : T (SV × St) :=
  (runFn cx (drawS cx) bl fuel c fn.ntmps fn.results.toList args S.mem S.next).bind fun r => ifT (inlOkB S r.1 r.2) (.ret (r.1, ⟨S.tmps, r.2.mem, r.2.next⟩))

theorem namesOk_spec {n : Nat} : ∀ {m : Mem}, namesOk n m = true → ∀ i, (look m i).isSome = true → i < n ∨ 1000000 ≤ i
  | [], _, i, h => by simp [look] at h
  | (j, b) :: m, hk, i, h => by
    simp only [namesOk, Bool.and_eq_true] at hk
    simp only [look] at h
    split at h
    · rename_i hj
      have := Nat.eq_of_beq_eq_true hj
      subst this
      have h1 := hk.1
      split at h1
      · rename_i hb; exact .inl (Nat.le_of_ble_eq_true hb)
      · exact .inr (Nat.le_of_ble_eq_true h1)
    · exact namesOk_spec hk.2 i h

theorem memNj_look {m : Mem} : ∀ {l : Mem}, memNj m l = true → ∀ i b, look l i = some b → b.nj = true
  | [], _, i, b, h => by cases h
  | (j, c) :: l, hk, i, b, h => by
    simp only [memNj, Bool.and_eq_true] at hk
    simp only [look] at h
    split at h
    · cases h; exact hk.1
    · exact memNj_look hk.2 i b h

theorem plainB_spec {v : SV} (h : plainB v = true) : wf v ∧ (∀ p, v.ids p) ∧ ∀ ρ ρ', v.den ρ = v.den ρ' := by
  unfold plainB at h
  split at h
  all_goals first
    | (cases h; done)
    | exact ⟨by simp only [wf, wfL], fun p => by simp only [SV.ids, idsL], fun ρ ρ' => by simp only [SV.den, denL]⟩

theorem inlFn_sound {P : Program} {Γ : Gam} {cx : Cx} (hc : CxOk P Γ.G cx) (h0 : Γ.G Γ.w0) (hg : GlobOk Γ) {bl : Blocks} {fuel : Nat} {f : FuncId} {fn : Func} {c : Code} (hf : P.funcs[f]? = some fn) (hb : fn.body = some c)
    (hbl : ∀ Γ' : Gam, Γ'.G = Γ.G → Γ'.G Γ'.w0 → GlobOk Γ' → BlocksIn P Γ' bl c) :
    ∀ args S v S', (∀ x ∈ args, wf x) → idsL S.has args → T.Reach (inlFn cx bl fuel fn c args S) (v, S') → ∀ ρ a w, Rel Γ ρ S a w →
      Calls P f (denL ρ args).toArray w (fun e w' => ∃ ρ', e = .returned (v.den ρ') ∧ Rel Γ ρ' S' a w' ∧ wf v ∧ v.ids S'.has) := by
  intro args S v S' hwf hids hr ρ a w hrel
  unfold inlFn at hr
  rw [T.reach_bind] at hr
  obtain ⟨⟨v2, S2⟩, h1, h2⟩ := hr
  obtain ⟨hk, h2⟩ := ifT_reach h2
  rw [T.reach_ret] at h2
  cases h2
  simp only [inlOkB, Bool.and_eq_true] at hk
  obtain ⟨⟨⟨⟨⟨k1, k2⟩, k3⟩, k4⟩, k5⟩, k6⟩ := hk
  let Γ' : Gam := ⟨Γ.w0, ρ, S.next, Γ.G⟩
  have hg' : GlobOk Γ' := fun g => by
    obtain ⟨e1, e2⟩ := hg g
    have p1 := hrel.pin.blk (gid g) (.inr (by simp [gid]))
    have p2 := hrel.pin.off (gid g) (.inr (by simp [gid]))
    exact ⟨p1.trans e1, p2.trans e2⟩
  have hrel' : Rel Γ' ρ { tmps := entryTmps args fn.ntmps, mem := S.mem, next := S.next } { tmps := (denL ρ (entryTmps args fn.ntmps)).toArray, defers := [] } w := by
    refine ⟨rfl, rfl, hrel.mem, hrel.dj, hrel.below, ⟨fun _ _ => rfl, fun _ _ => rfl, fun _ _ => rfl⟩, Nat.le_refl _, fun x hx => ?_, idsL_iff.2 fun x hx => ?_⟩
    · simp only [entryTmps, List.mem_append, List.mem_replicate] at hx
      rcases hx with hx | ⟨-, rfl⟩
      · exact hwf x hx
      · simp only [wf]
    · simp only [entryTmps, List.mem_append, List.mem_replicate] at hx
      rcases hx with hx | ⟨-, rfl⟩
      · exact idsL_iff.1 hids x hx
      · simp only [SV.ids]
  have hcx' : CxOk P Γ'.G cx := hc
  have hcall := runFn_sound (Γ := Γ') hcx' hg' h0 (drawS_sound hcx' hg' h0) hf hb (hbl Γ' rfl h0 hg') h1 hrel'
  refine hcall.mono fun e w' ⟨ρ', a', he, hr'⟩ => ?_
  obtain ⟨p1, p2, p3⟩ := plainB_spec k2
  have hag : Agree S.has ρ (ρ'.withJunk ρ.junk) := by
    have hpin : ∀ i, S.has i → Γ'.pinned i := fun i hi => namesOk_spec k1 i hi
    exact ⟨fun i hi => hr'.pin.blk i (hpin i hi), fun i hi => hr'.pin.off i (hpin i hi), fun i hi => hr'.pin.cap i (hpin i hi), rfl⟩
  refine ⟨ρ'.withJunk ρ.junk, by rw [he, p3 ρ' (ρ'.withJunk ρ.junk)], ?_, p1, p2 _⟩
  have hcells : ∀ i b, look S2.mem i = some b → b.cells (ρ'.withJunk ρ.junk) = b.cells ρ' := fun i b hl => Blk.cells_junk ρ' ρ.junk (memNj_look k3 i b hl)
  refine ⟨?_, hrel.df, ?_, ?_, hr'.below, ?_, Nat.le_trans hrel.nx hr'.nx, hrel.wfT, idsLB_spec _ k5⟩
  · show a.tmps = (denL (ρ'.withJunk ρ.junk) S.tmps).toArray
    rw [hrel.tm, denL_agree hag _ hrel.idT]
  · intro i b hl
    obtain ⟨hok, hi⟩ := hr'.mem i b hl
    have hcc := hcells i b hl
    refine ⟨⟨hok.atoms, ?_, ?_, hok.theirs⟩, memIds_look k6 i b hl⟩
    · rw [hcc]; exact hok.cell
    · rw [hcc]; exact hok.mine
  · intro i j b c' hi hj
    exact hr'.dj i j b c' hi hj
  · have hmono : ∀ i, Γ.pinned i → Γ'.pinned i := fun i hi => by
      rcases hi with hi | hi
      · exact .inl (Nat.lt_of_lt_of_le hi hrel.nx)
      · exact .inr hi
    exact ⟨fun i hi => (hr'.pin.blk i (hmono i hi)).trans (hrel.pin.blk i hi), fun i hi => (hr'.pin.off i (hmono i hi)).trans (hrel.pin.off i hi), fun i hi => (hr'.pin.cap i (hmono i hi)).trans (hrel.pin.cap i hi)⟩

/-- One function that is walked into. -/
def inlOne (g : FuncId) (h : List SV → St → T (SV × St)) : FuncId → Option (List SV → St → T (SV × St)) := fun i => match Nat.beq g i with
  | true => some h
  | false => none

def Cx.withInl (cx : Cx) (i : FuncId → Option (List SV → St → T (SV × St))) : Cx := ⟨cx.tab, cx.ext, cx.fn, i⟩

theorem cxInl_ok {P : Program} {G : World → Prop} {cx : Cx} (hc : CxOk P G cx) {bl : Blocks} {fuel : Nat} {f : FuncId} {fn : Func} {c : Code} (hf : P.funcs[f]? = some fn) (hb : fn.body = some c) (hent : ∀ args w, (callFunc f args).run P w = .ok (.enter f args) w)
    (hbl : ∀ Γ' : Gam, Γ'.G = G → Γ'.G Γ'.w0 → GlobOk Γ' → BlocksIn P Γ' bl c) : CxOk P G (cx.withInl (inlOne f (inlFn cx bl fuel fn c))) := by
  refine ⟨hc.tab, hc.ext, hc.fn, hc.keep, hc.mixed, fun Γ hG h0 hg g h hh => ?_⟩
  simp only [Cx.withInl, inlOne] at hh
  split at hh
  · rename_i hj
    have := Nat.eq_of_beq_eq_true hj
    subst this
    cases hh
    subst hG
    exact ⟨hent, inlFn_sound hc h0 hg hf hb hbl⟩
  · cases hh
/-- What is taken of less holds of more. -/
theorem FnOk.mono {P : Program} {G G' : World → Prop} {g : FuncId} {spec : List SV → T SV} (h : FnOk P G g spec) (hG : ∀ w, G' w → G w) : FnOk P G' g spec :=
  ⟨h.closed, h.ids, h.enters, fun args v hw hr ρ w hg => h.call args v hw hr ρ w (hG w hg)⟩

end Go.Sx

/- The symbolic layer: from a law's contract to its row. -/
namespace Go.Sx
open Go.RowKit (Below Below.trod Below.frame)
open Go.ChangeShapes

/-- A contract's kind fits a type. -/
def isCells (P : Program) (t : TypeId) : Bool := match P.underlying t with
  | some (.struct _) => true
  | some (.array _ _) => true
  | _ => false
def kindIs (P : Program) (k : IntKind) (u : TypeId) : Bool := match P.underlying u with
  | some (.int k') => decide (k' = k)
  | _ => false
def kindsAre (P : Program) : List IntKind → List TypeId → Bool
  | [], [] => true
  | k :: ks, u :: us => kindIs P k u && kindsAre P ks us
  | _, _ => false
def flatK : List (IntKind × Nat) → List IntKind
  | [] => []
  | (k, n) :: l => List.replicate n k ++ flatK l
def akOk (P : Program) (t : TypeId) : AK → Bool
  | .num k => kindIs P k t
  | .bool => match P.underlying t with
    | some .bool => true
    | _ => false
  | .ints k n => isCells P t && Nat.beq (P.cellsOf t) n && match P.cellTypes P.depth t with
    | some ts => kindsAre P (List.replicate n k) ts
    | none => false
  | .agg ks => isCells P t && Nat.beq (P.cellsOf t) (flatK ks).length && match P.cellTypes P.depth t with
    | some ts => kindsAre P (flatK ks) ts
    | none => false

def hasL (k : IntKind) (l : List Int) : Prop := ∀ x ∈ l, k.has x
def hasP : List (IntKind × Nat) → List (List Int) → Prop
  | (k, _) :: ks, l :: ls => hasL k l ∧ hasP ks ls
  | _, _ => True
def has1 : AK → AV → Prop
  | .num k, .n x => k.has x
  | .ints k _, .l xs => hasL k xs
  | .agg ks, .a ls => hasP ks ls
  | _, _ => True
def hasA : List AK → List AV → Prop
  | k :: ks, a :: xs => has1 k a ∧ hasA ks xs
  | _, _ => True

section
variable {P : Program} {w : World} {r : Reach} {base : Nat}

theorem kindIs_und {k : IntKind} {u : TypeId} (h : kindIs P k u = true) : P.underlying u = some (.int k) := by
  unfold kindIs at h
  split at h
  · rename_i k' hu; have := of_decide_eq_true h; subst this; exact hu
  · cases h

theorem cell_int {k : IntKind} {u : TypeId} {v : Value} (h : kindIs P k u = true) (hok : Cell.okWide P w r base u v) : ∃ x, v = .int k x ∧ k.has x := by
  have hu := kindIs_und h
  unfold Cell.okWide at hok
  rw [hu] at hok
  cases v <;> simp only [Cell.ok, hu] at hok <;> try exact hok.elim
  obtain ⟨rfl, h2⟩ := hok
  exact ⟨_, rfl, h2⟩

theorem cells_kinds : ∀ (kl : List IntKind) (ts : List TypeId) (cs : List Value), kindsAre P kl ts = true → cs.length = kl.length → (∀ (i : Nat) (v : Value), cs[i]? = some v → ∃ u, ts[i]? = some u ∧ Cell.okWide P w r base u v) →
    ∃ l : List Int, l.length = kl.length ∧ cs = (kl.zip l).map (fun p => Value.int p.1 p.2) ∧ ∀ p ∈ kl.zip l, p.1.has p.2
  | [], ts, cs, _, hl, _ => ⟨[], rfl, by simpa using hl, fun p hp => by cases hp⟩
  | k :: kl, [], cs, h, _, _ => by simp [kindsAre] at h
  | k :: kl, u :: ts, [], h, hl, _ => by simp at hl
  | k :: kl, u :: ts, c :: cs, h, hl, hc => by
    simp only [kindsAre, Bool.and_eq_true] at h
    obtain ⟨u', hu, hok⟩ := hc 0 c rfl
    simp at hu; subst hu
    obtain ⟨x, rfl, hx⟩ := cell_int h.1 hok
    obtain ⟨l, h1, h2, h3⟩ := cells_kinds kl ts cs h.2 (by simpa using hl) (fun i v hi => by
      have := hc (i + 1) v (by simpa using hi)
      simpa using this)
    refine ⟨x :: l, by simp [h1], by simp [h2], fun p hp => ?_⟩
    simp only [List.zip_cons_cons, List.mem_cons] at hp
    rcases hp with rfl | hp
    · exact hx
    · exact h3 p hp

theorem zip_replicate (n : Nat) (k : IntKind) (l : List Int) (h : l.length = n) : (List.replicate n k).zip l = l.map fun x => (k, x) := by
  induction l generalizing n with
  | nil => simp
  | cons x l ih =>
    obtain ⟨m, rfl⟩ : ∃ m, n = m + 1 := ⟨n - 1, by simp at h; omega⟩
    simp [List.replicate_succ, ih m (by simpa using h)]

theorem flat_parts (ρ : Env) : ∀ (ks : List (IntKind × Nat)) (l : List Int), l.length = (flatK ks).length → (∀ p ∈ (flatK ks).zip l, p.1.has p.2) →
    ∃ ls, lens ks ls ∧ hasP ks ls ∧ ((flatK ks).zip l).map (fun p => Value.int p.1 p.2) = cellsL ρ (partsOf ks ls)
  | [], l, _, _ => ⟨[], trivial, trivial, by simp [flatK, partsOf, cellsL]⟩
  | (k, n) :: ks, l, hl, hh => by
    simp only [flatK, List.length_append, List.length_replicate] at hl
    have hsplit : l = l.take n ++ l.drop n := (List.take_append_drop n l).symm
    have htl : (l.take n).length = n := by rw [List.length_take]; omega
    have hz : (flatK ((k, n) :: ks)).zip l = (l.take n).map (fun x => (k, x)) ++ (flatK ks).zip (l.drop n) := by
      conv => lhs; rw [hsplit]
      simp only [flatK]
      rw [List.zip_append (by simp [htl]), zip_replicate n k _ htl]
    rw [hz] at hh
    obtain ⟨ls, h1, h2, h3⟩ := flat_parts ρ ks (l.drop n) (by rw [List.length_drop]; omega) (fun p hp => hh p (by simp [hp]))
    refine ⟨l.take n :: ls, ⟨htl, h1⟩, ⟨fun x hx => ?_, h2⟩, ?_⟩
    · exact hh (k, x) (by simp only [List.mem_append, List.mem_map]; exact .inl ⟨x, hx, rfl⟩)
    · rw [hz]
      simp only [List.map_append, h3, partsOf, cellsL, SV.den, Value.cells, List.map_map]
      rfl

theorem row_cells {t : TypeId} {v : Value} {kl : List IntKind} (hc : isCells P t = true) (hn : P.cellsOf t = kl.length) (hts : (match P.cellTypes P.depth t with
    | some ts => kindsAre P kl ts
    | none => false) = true) (hok : Value.okWide P w r base t v) : ∃ l : List Int, v = .agg ((kl.zip l).map (fun p => Value.int p.1 p.2)).toArray ∧ l.length = kl.length ∧ ∀ p ∈ kl.zip l, p.1.has p.2 := by
  have key : ∃ cs, v = .agg cs ∧ cs.size = P.cellsOf t ∧ Row.okWide P w r base t cs := by
    unfold Value.okWide at hok
    unfold isCells at hc
    split at hc
    · rename_i fs hu; rw [hu] at hok; exact hok
    · rename_i n e hu; rw [hu] at hok; exact hok
    · cases hc
  obtain ⟨cs, rfl, hs, ts, ht, -, hall⟩ := key
  rw [ht] at hts
  have hlen : kl.length = ts.length := by
    have : ∀ (kl : List IntKind) (ts : List TypeId), kindsAre P kl ts = true → kl.length = ts.length := by
      intro kl
      induction kl with
      | nil => intro ts h; cases ts <;> simp [kindsAre] at *
      | cons k kl ih => intro ts h; cases ts with
        | nil => simp [kindsAre] at h
        | cons u ts => simp only [kindsAre, Bool.and_eq_true] at h; simp [ih ts h.2]
    exact this kl ts hts
  obtain ⟨l, h1, h2, h3⟩ := cells_kinds (P := P) (w := w) (r := r) (base := base) kl ts cs.toList hts (by simp [hs, hn]) (fun i v hi => by
    obtain ⟨u, hu, hok⟩ := hall i v (by simpa using hi)
    have hlt : i < cs.size := by
      have : i < cs.toList.length := (List.getElem?_eq_some_iff.1 hi).1
      simpa using this
    rw [Nat.mod_eq_of_lt (by omega)] at hu
    exact ⟨u, hu, hok⟩)
  refine ⟨l, ?_, h1, h3⟩
  congr 1
  apply Array.ext'
  simpa using h2

theorem open1 {t : TypeId} {v : Value} {k : AK} (hk : akOk P t k = true) (hok : Value.okWide P w r base t v) (ρ : Env) : ∃ a, fit1 k a ∧ has1 k a ∧ v = (can1 k a).den ρ := by
  cases k with
  | num k =>
    simp only [akOk] at hk
    have hu := kindIs_und hk
    unfold Value.okWide at hok
    rw [hu] at hok
    obtain ⟨x, rfl, hx⟩ := cell_int hk hok
    exact ⟨.n x, trivial, hx, by simp [can1, SV.den]⟩
  | bool =>
    simp only [akOk] at hk
    split at hk
    · rename_i hu
      unfold Value.okWide at hok
      rw [hu] at hok
      unfold Cell.okWide at hok
      rw [hu] at hok
      cases v <;> simp only [Cell.ok, hu] at hok <;> try exact hok.elim
      rename_i b
      exact ⟨.b b, trivial, trivial, by simp [can1, SV.den]⟩
    · cases hk
  | ints k n =>
    simp only [akOk, Bool.and_eq_true, Nat.beq_eq] at hk
    obtain ⟨⟨h1, h2⟩, h3⟩ := hk
    obtain ⟨l, rfl, hl, hh⟩ := row_cells (kl := List.replicate n k) h1 (by simpa using h2) h3 hok
    have hl : l.length = n := by simpa using hl
    rw [zip_replicate n k l hl] at hh ⊢
    refine ⟨.l l, hl, fun x hx => hh (k, x) (by simpa using hx), ?_⟩
    simp only [can1, SV.den, List.map_map]
    rfl
  | agg ks =>
    simp only [akOk, Bool.and_eq_true, Nat.beq_eq] at hk
    obtain ⟨⟨h1, h2⟩, h3⟩ := hk
    obtain ⟨l, rfl, hl, hh⟩ := row_cells (kl := flatK ks) h1 h2 h3 hok
    obtain ⟨ls, h4, h5, h6⟩ := flat_parts ρ ks l hl hh
    exact ⟨.a ls, h4, h5, by rw [h6]; simp only [can1, SV.den]⟩

def aksOk (P : Program) : List TypeId → List AK → Bool
  | [], [] => true
  | t :: ts, k :: ks => akOk P t k && aksOk P ts ks
  | _, _ => false

theorem openL (ρ : Env) : ∀ (ts : List TypeId) (ks : List AK) (vs : List Value), aksOk P ts ks = true → vs.length = ts.length → (∀ (j : Nat) t v, ts[j]? = some t → vs[j]? = some v → Value.okWide P w r base t v) →
    ∃ xs, fit ks xs ∧ hasA ks xs ∧ vs = denL ρ (can ks xs)
  | [], [], [], _, _, _ => ⟨[], trivial, trivial, by simp [can, denL]⟩
  | [], [], _ :: _, _, h, _ => by simp at h
  | [], _ :: _, _, h, _, _ => by simp [aksOk] at h
  | _ :: _, [], _, h, _, _ => by simp [aksOk] at h
  | _ :: _, _ :: _, [], _, h, _ => by simp at h
  | t :: ts, k :: ks, v :: vs, h, hl, hok => by
    simp only [aksOk, Bool.and_eq_true] at h
    obtain ⟨a, h1, h2, h3⟩ := open1 h.1 (hok 0 t v rfl rfl) ρ
    obtain ⟨xs, h4, h5, h6⟩ := openL ρ ts ks vs h.2 (by simpa using hl) (fun j t' v' ht hv => hok (j + 1) t' v' (by simpa using ht) (by simpa using hv))
    exact ⟨a :: xs, ⟨h1, h4⟩, ⟨h2, h5⟩, by simp only [can, denL, ← h3, ← h6]⟩
end

theorem parse1_can {k : AK} {a : AV} (h : fit1 k a) : parse1 k (can1 k a) = some a := by
  cases k <;> cases a <;> simp only [fit1] at h <;> try exact h.elim
  · simp [parse1, can1, asNum, numOf]
  · simp [parse1, can1, asInts]
  · simp [parse1, can1, boolOf]
  · rename_i ks ls
    have : ∀ (ks : List (IntKind × Nat)) (ls : List (List Int)), lens ks ls → asParts ks (partsOf ks ls) = some ls := by
      intro ks
      induction ks with
      | nil => intro ls h; cases ls with
        | nil => rfl
        | cons l ls => simp [lens] at h
      | cons k ks ih => intro ls h; cases ls with
        | nil => simp [lens] at h
        | cons l ls => simp [partsOf, asParts, asInts, ih ls h.2]
    simp [parse1, can1, this ks ls h]

theorem parse_can : ∀ {ks : List AK} {xs : List AV}, fit ks xs → parse ks (can ks xs) = some xs
  | [], [], _ => rfl
  | [], _ :: _, h => h.elim
  | _ :: _, [], h => h.elim
  | k :: ks, a :: xs, h => by simp only [can, parse, parse1_can h.1, parse_can h.2]

section
variable {H : Type} {enc : TypeId × Value → H} {P : Program}

/-- One closed fact: each parameter's type can be read and is a row of the table. -/
def rowed (P : Program) (ts : List TypeId) : Bool := ts.all fun t => P.readableRec t && decide (t < P.types.size)

theorem trodAll_stays (hl : laidOutB P = true) {W W' : World} (hb : Below W.heap.size W W') : ∀ {ts : List TypeId} {vs : List Value} {ds : List (DataW H)} {ps : List MemPlace}, rowed P ts = true →
    DataW.TrodAll enc P W 0 (fun _ => true) true ts vs ds ps → DataW.TrodAll enc P W' 0 (fun b => decide (b < W.heap.size)) true ts vs ds ps
  | [], [], [], _, _, h => h
  | [], [], _ :: _, _, _, h => h.elim
  | [], _ :: _, _, _, _, h => h.elim
  | _ :: _, [], _, _, _, h => h.elim
  | _ :: _, _ :: _, [], _, _, h => h.elim
  | t :: ts, v :: vs, d :: ds, ps, hr, h => by
    have hlt := h.lt
    obtain ⟨p, q, h1, h2, rfl⟩ := h
    simp only [rowed, List.all_cons, Bool.and_eq_true, decide_eq_true_eq] at hr
    exact ⟨p, q, Below.trod hl hr.1.1 hr.1.2 h1 hb (fun x hx => hlt x (by simp [hx])), trodAll_stays hl hb (by simpa [rowed] using hr.2) h2, rfl⟩

/-- **A law's contract gives its row's post-condition.** -/
theorem law_calls {G : World → Prop} {f : FuncId} {fn : Func} {s : ChangeSpec} {ks : List AK} {pre : List AV → Prop} {rt : TypeId} (h : FnOk P G f (ct ks pre [.bool] (fun _ => [.b true])))
    (hl : laidOutB P = true) (hks : aksOk P fn.params.toList ks = true) (hrow : rowed P fn.params.toList = true) (hres : fn.resultTypes.toList = [rt]) (hbool : P.underlying rt = some .bool) (hvars : s.vars = [])
    (hs : ∀ ds : List (DataW H), ds.length = fn.params.toList.length → s.fn H ds = { results := [.lit (.bool true)], args := ds })
    (hpre : ∀ xs, fit ks xs → hasA ks xs → pre xs)
    {W : World} {base : Nat} {args : Array Value} {ds gs : List (DataW H)} {before : List MemPlace}
    (hval : ∀ (j : Nat) t v, fn.params[j]? = some t → args[j]? = some v → Value.okWide P W .any base t v)
    (hW : DataW.Whole enc P fn.params.toList s.vars false W args.toList ds gs before) (hG : G W) :
    Calls P f args W fun e W' => ∃ v, e = .returned v ∧ s.post enc P fn false true false false W args v W' := by
  let ρ : Env := ⟨id, id, id, fun _ => undef⟩
  have hW' := hW
  obtain ⟨p, q, hA, hV, rfl, -, -⟩ := hW
  obtain ⟨hlen1, hlen2⟩ := trodAll_length hA
  obtain ⟨xs, h1, h2, h3⟩ := openL (P := P) (w := W) (r := .any) (base := base) ρ fn.params.toList ks args.toList hks hlen1 (fun j t v ht hv => hval j t v (by simpa using ht) (by simpa using hv))
  have hgs : gs = [] ∧ q = [] := by
    rw [hvars] at hV
    cases gs with
    | nil => exact ⟨rfl, hV⟩
    | cons g r => exact absurd hV (by intro h; cases h)
  obtain ⟨rfl, rfl⟩ := hgs
  have hreach : T.Reach (ct ks pre [.bool] (fun _ => [.b true]) (can ks xs)) (.bool true) := by
    unfold ct spG
    rw [parse_can h1]
    simp only [ctF, T.reach_need, T.reach_ret]
    exact ⟨hpre xs h1 h2, rfl⟩
  have hc := h.call (can ks xs) (.bool true) (fun x hx => (can_closed h1 x hx).wf) hreach ρ W hG
  have ha : args = (denL ρ (can ks xs)).toArray := by apply Array.ext'; simpa using h3
  rw [← ha] at hc
  refine hc.mono fun e W' ⟨he, hb⟩ => ?_
  subst he
  have hfn := hs ds hlen2
  refine ⟨_, rfl, ds, [], p ++ [], [], p, [], hW', ?_, ?_, ?_, hb.frame _, fun h => by cases h⟩
  · rw [List.append_nil, hfn]
    have hsz : fn.resultTypes.size = 1 := by rw [← Array.length_toList, hres]; rfl
    rw [hres, hsz]
    have : (SV.den ρ (.bool true)).resultList 1 = [.bool true] := by simp [SV.den, Value.resultList]
    rw [this]
    exact trodAll_mk1 (Go.RowKit.shut_bool hbool true)
  · rw [List.append_nil, hfn]
    exact trodAll_stays hl hb hrow hA
  · rw [List.append_nil, hfn, hvars]
    rfl
end
end Go.Sx

/- The symbolic layer: what the listed variables give. -/
namespace Go.Sx

theorem mapM_get {α β : Type} {f : α → Option β} : ∀ {l : List α} {xs : List β}, l.mapM f = some xs → xs.length = l.length ∧ ∀ (i : Nat) (a : α), l[i]? = some a → ∃ b, xs[i]? = some b ∧ f a = some b
  | [], xs, h => by
    simp at h; subst h
    exact ⟨rfl, fun i a h => by simp at h⟩
  | a :: l, xs, h => by
    rw [List.mapM_cons] at h
    cases hf : f a with
    | none => simp [hf] at h
    | some b =>
      cases hm : l.mapM f with
      | none => simp [hf, hm] at h
      | some ys =>
        simp [hf, hm] at h
        subst h
        obtain ⟨h1, h2⟩ := mapM_get hm
        refine ⟨by simp [h1], fun i c hc => ?_⟩
        cases i with
        | zero => simp at hc; subst hc; exact ⟨b, rfl, hf⟩
        | succ i => exact h2 i c (by simpa using hc)

section
variable {H : Type} {enc : TypeId × Value → H} {P : Program} {w : World} {base : Nat} {sp : Nat → Bool} {held : Bool}

theorem trod_one_int {e : TypeId} {k : IntKind} {fuel : Nat} {c : Value} {x : Int} {ps : List MemPlace} (he : P.underlying e = some (.int k)) (h : DataW.trod enc P w base sp held fuel e [c] = some (.lit (.int k x), ps)) : c = .int k x := by
  cases fuel with
  | zero => simp [DataW.trod] at h
  | succ fuel =>
    unfold DataW.trod at h
    rw [he] at h
    cases c <;> simp at h
    obtain ⟨⟨rfl, -⟩, rfl, -⟩ := h
    rfl

/-- An array of numbers, read: its cells. -/
theorem trod_ints {t e : TypeId} {n : Nat} {k : IntKind} {fuel : Nat} {cs : List Value} {l : List Int} {ps : List MemPlace} (ht : P.underlying t = some (.array n e)) (he : P.underlying e = some (.int k)) (hc : P.cellsOf e = 1) (hn : P.cellsOf t = n)
    (h : DataW.trod enc P w base sp held fuel t cs = some (.agg (l.map fun x => .lit (.int k x)), ps)) : cs = l.map (Value.int k) := by
  cases fuel with
  | zero => simp [DataW.trod] at h
  | succ fuel =>
    unfold DataW.trod at h
    rw [ht] at h
    simp only at h
    split at h
    · rename_i hlen
      rw [hn] at hlen
      simp only [Option.map_eq_some_iff, Prod.mk.injEq, DataW.agg.injEq] at h
      obtain ⟨xs, hm, h1, -⟩ := h
      obtain ⟨h2, h3⟩ := mapM_get hm
      simp only [List.length_range] at h2
      have hll : l.length = n := by
        have := congrArg List.length h1
        simp at this; omega
      apply List.ext_getElem?
      intro i
      rcases Nat.lt_or_ge i n with hi | hi
      · obtain ⟨b, hb, hf⟩ := h3 i i (by simp [hi])
        have hcell : ((cs.drop (i * P.cellsOf e)).take (P.cellsOf e)) = [cs[i]'(by omega)] := by
          rw [hc, Nat.mul_one]
          have e : cs.drop i = cs[i]'(by omega) :: cs.drop (i + 1) := List.drop_eq_getElem_cons (by omega)
          rw [e]; rfl
        rw [hcell] at hf
        have hd : b.1 = .lit (.int k (l[i]'(by omega))) := by
          have := congrArg (fun z : List (DataW H) => z[i]?) h1
          simp only [List.getElem?_map, hb, Option.map_some] at this
          rw [List.getElem?_eq_getElem (by omega)] at this
          simpa using this
        obtain ⟨b1, b2⟩ := b
        simp only at hd; subst hd
        have := trod_one_int he hf
        rw [List.getElem?_eq_getElem (by omega), List.getElem?_map, List.getElem?_eq_getElem (by omega), this]
        rfl
      · rw [List.getElem?_eq_none (by omega), List.getElem?_eq_none (by simp; omega)]
    · cases h

theorem gInts_of {n : String} {g : Nat} {t e : TypeId} {m : Nat} {k : IntKind} {fuel : Nat} {cs : Array Value} {l : List Int} {ps : List MemPlace} (hg : P.globalNamed n = some g) (hv : w.var? P n = some cs)
    (ht : P.underlying t = some (.array m e)) (he : P.underlying e = some (.int k)) (hc : P.cellsOf e = 1) (hn : P.cellsOf t = m) (h : DataW.trod enc P w base sp held fuel t cs.toList = some (.agg (l.map fun x => .lit (.int k x)), ps)) : gInts w g k l := by
  have hcs := trod_ints ht he hc hn h
  have hlt : g < w.heap.size := by
    unfold World.var? at hv
    rw [hg] at hv
    simp only [Option.bind_some] at hv
    split at hv
    · rename_i hh; exact (Array.getElem?_eq_some_iff.1 hh).1
    · cases hv
  refine ⟨hlt, fun j x hx => ?_⟩
  rw [World.var?_cell hg hv j, ← Array.getElem?_toList, hcs, List.getElem?_map, hx]
  rfl
end
end Go.Sx
