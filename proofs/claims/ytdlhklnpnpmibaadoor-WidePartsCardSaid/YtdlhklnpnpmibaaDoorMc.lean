import Derived.Test.YtdlhklnpnpmibaaDoorMb
import Derived.ProofKit
import Derived.LaidMore
import Derived.OpenShut
import Derived.Stop.Joined
import Derived.JoinedOf
import Derived.RowKit
import Derived.Carry
import Derived.ChangeCalls
import Derived.RangeFuncNested
import Derived.RangeFuncCalls
import Derived.TacticsInMore
/- The symbolic layer: loops as rules. A round's end is brought to the invariant's form by forgetting. -/
namespace Go.Sx
open Go.RowKit (Below)

inductive Kp where
  | keep | junk | soft

def soft1 : SV → SV
  | .lit k n => .int k n
  | .tt => .bool true
  | .ff => .bool false
  | v => v

theorem soft1_den (ρ : Env) (v : SV) : (soft1 v).den ρ = v.den ρ := by cases v <;> simp [soft1, SV.den]
theorem soft1_wf {v : SV} (h : wf v) : wf (soft1 v) := by cases v <;> simp only [soft1, wf] at * <;> exact h
theorem soft1_ids {v : SV} {p : Nat → Prop} (h : v.ids p) : (soft1 v).ids p := by cases v <;> simp only [soft1, SV.ids] at * <;> exact h

def softL : List Kp → List SV → List SV
  | k :: ks, v :: vs => (match k with
    | .soft => soft1 v
    | _ => v) :: softL ks vs
  | _, vs => vs

def junkL : List Kp → Nat → List SV → List SV
  | k :: ks, i, v :: vs => (match k with
    | .junk => .junk i
    | _ => v) :: junkL ks (i + 1) vs
  | _, _, vs => vs

def njK : List Kp → List SV → Bool
  | k :: ks, v :: vs => (match k with
    | .junk => true
    | _ => Sx.nj v) && njK ks vs
  | _, vs => njL vs

def memNj (m : Mem) : Mem → Bool
  | [] => true
  | (_, b) :: r => b.nj && memNj m r
def keyIn (i : Nat) : Mem → Bool
  | [] => false
  | (j, _) :: r => Nat.beq j i || keyIn i r
def keysOk : Mem → Bool
  | [] => true
  | (i, _) :: r => !(keyIn i r) && keysOk r

/-- What is kept at a loop's head: of the slots; how many blocks; the next block's name. -/
structure Fg where
  ks : List Kp
  mm : Nat
  nx : Nat

def forget (f : Fg) (S : St) : St := ⟨junkL f.ks 0 (softL f.ks S.tmps), S.mem.take f.mm, f.nx⟩
def keepOk (f : Fg) (S : St) : Bool := njK f.ks (softL f.ks S.tmps) && memNj S.mem (S.mem.take f.mm) && keysOk S.mem && idsLB (S.mem.take f.mm) (junkL f.ks 0 (softL f.ks S.tmps)) && memIds (S.mem.take f.mm) (S.mem.take f.mm)

theorem softL_den (ρ : Env) : ∀ (ks : List Kp) (vs : List SV), denL ρ (softL ks vs) = denL ρ vs
  | [], vs => by simp [softL]
  | _ :: _, [] => by simp [softL]
  | k :: ks, v :: vs => by
    simp only [softL, denL, softL_den ρ ks vs]
    congr 1
    split
    · exact soft1_den ρ v
    · rfl
theorem softL_wf : ∀ (ks : List Kp) (vs : List SV), (∀ v ∈ vs, wf v) → ∀ v ∈ softL ks vs, wf v
  | [], vs, h => by simpa [softL] using h
  | _ :: _, [], h => by simp [softL]
  | k :: ks, v :: vs, h => by
    intro u hu
    simp only [softL, List.mem_cons] at hu
    rcases hu with rfl | hu
    · split
      · exact soft1_wf (h _ (by simp))
      · exact h _ (by simp)
    · exact softL_wf ks vs (fun x hx => h x (by simp [hx])) u hu
theorem softL_ids (p : Nat → Prop) : ∀ (ks : List Kp) (vs : List SV), idsL p vs → idsL p (softL ks vs)
  | [], vs, h => by simpa [softL] using h
  | _ :: _, [], h => by simpa [softL] using h
  | k :: ks, v :: vs, h => by
    simp only [softL, idsL] at *
    refine ⟨?_, softL_ids p ks vs h.2⟩
    split
    · exact soft1_ids h.1
    · exact h.1

theorem Rel.soft {Γ : Gam} {ρ : Env} {S : St} {a : Act} {w : World} (ks : List Kp) (h : Rel Γ ρ S a w) : Rel Γ ρ { S with tmps := softL ks S.tmps } a w :=
  ⟨by rw [h.tm, softL_den], h.df, h.mem, h.dj, h.below, h.pin, h.nx, softL_wf ks _ h.wfT, softL_ids _ ks _ h.idT⟩

theorem slotsW_refl : ∀ (i : Nat) (vs : List SV), njL vs = true → slotsW i vs vs
  | _, [], _ => trivial
  | i, v :: vs, h => by
    simp only [njL, Bool.and_eq_true] at h
    simp only [slotsW]
    refine ⟨?_, slotsW_refl (i + 1) vs h.2⟩
    cases v <;> first | exact ⟨rfl, h.1⟩ | (simp [Sx.nj] at h)

theorem slotsW_junkL : ∀ (ks : List Kp) (i : Nat) (vs : List SV), njK ks vs = true → slotsW i vs (junkL ks i vs)
  | [], i, vs, h => by simp only [junkL]; simp only [njK] at h; exact slotsW_refl i vs h
  | _ :: _, i, [], h => trivial
  | k :: ks, i, v :: vs, h => by
    simp only [njK, Bool.and_eq_true] at h
    simp only [junkL, slotsW]
    refine ⟨?_, slotsW_junkL ks (i + 1) vs h.2⟩
    cases k with
    | junk => rfl
    | keep => cases v <;> first | exact ⟨rfl, h.1⟩ | (simp [Sx.nj] at h)
    | soft => cases v <;> first | exact ⟨rfl, h.1⟩ | (simp [Sx.nj] at h)

theorem look_key : ∀ {m : Mem} {i : Nat} {b : Blk}, (i, b) ∈ m → keysOk m = true → look m i = some b
  | (j, c) :: r, i, b, h, hk => by
    simp only [keysOk, Bool.and_eq_true, Bool.not_eq_true'] at hk
    simp only [look]
    rcases List.mem_cons.1 h with e | h
    · cases e; simp
    · have : Nat.beq j i = false := by
        cases hb : Nat.beq j i with
        | false => rfl
        | true =>
          have := Nat.eq_of_beq_eq_true hb
          subst this
          have key : ∀ (l : Mem), (j, b) ∈ l → keyIn j l = true := by
            intro l
            induction l with
            | nil => intro h; cases h
            | cons x l ih =>
              intro h
              obtain ⟨x1, x2⟩ := x
              simp only [keyIn, Bool.or_eq_true]
              rcases List.mem_cons.1 h with e | h
              · cases e; exact .inl (by simp)
              · exact .inr (ih h)
          rw [key r h] at hk
          exact absurd hk.1 (by simp)
      simp only [this]
      exact look_key h hk.2

theorem memW_refl (m : Mem) : ∀ l : Mem, (∀ x ∈ l, x ∈ m) → keysOk m = true → memNj m l = true → memW m l
  | [], _, _, _ => trivial
  | (i, b) :: r, hl, hk, h => by
    simp only [memNj, Bool.and_eq_true] at h
    exact ⟨look_key (hl _ (by simp)) hk, h.1, memW_refl m r (fun x hx => hl x (by simp [hx])) hk h.2⟩

theorem forget_weak {f : Fg} {S : St} (h : keepOk f S = true) : Weak { S with tmps := softL f.ks S.tmps } (forget f S) := by
  simp only [keepOk, Bool.and_eq_true] at h
  obtain ⟨⟨⟨⟨h1, h2⟩, h3⟩, h4⟩, h5⟩ := h
  exact ⟨slotsW_junkL f.ks 0 _ h1, memW_refl _ _ (fun _ hx => List.mem_of_mem_take hx) h3 h2, h4, h5⟩

theorem Rel.forget {Γ : Gam} {ρ : Env} {S : St} {a : Act} {w : World} {f : Fg} (h : Rel Γ ρ S a w) (hk : keepOk f S = true) (hn : Γ.n0 ≤ f.nx) : ∃ ρ', Rel Γ ρ' (Sx.forget f S) a w :=
  (h.soft f.ks).weaken (forget_weak hk) hn

def ifT {α : Type} (b : Bool) (t : T α) : T α := match b with
  | true => t
  | false => .fail "not kept"

theorem ifT_good {α : Type} {b : Bool} {t : T α} {Q : α → Prop} (h : (ifT b t).good Q) : b = true ∧ t.good Q := by
  cases b with
  | true => exact ⟨rfl, h⟩
  | false => exact h.elim
theorem ifT_reach {α : Type} {b : Bool} {t : T α} {x : α} (h : T.Reach (ifT b t) x) : b = true ∧ T.Reach t x := by
  cases b with
  | true => exact ⟨rfl, h⟩
  | false => exact (T.reach_fail h).elim

/-- What a round comes to. -/
def endOf (ks js : Fg) (t : T (Ex × St)) : T (Ex × St) := t.bind fun r => match r.1 with
  | .normal => ifT (keepOk ks r.2) (.ret (.normal, Sx.forget ks r.2))
  | .exit j => ifT (keepOk js r.2) (.ret (.exit j, Sx.forget js r.2))
  | .ret => .fail "a round returns"

def loopF (ks : Fg) (start out : St) (S : St) : T (Ex × St) := ifT (keepOk ks S) (.need (Sx.forget ks S = start) (.ret (.normal, out)))

section
variable {P : Program} {Γ : Gam} {cx : Cx} {draw : Array Oper → St → T St} {bl : Blocks}

/-- **A loop as a rule.** -/
theorem loop_rule (hc : CxOk P Γ.G cx) (hg : GlobOk Γ) (h0 : Γ.G Γ.w0) (hd : DrawOk P Γ draw) {id : Nat} {body : Code} (hbl : BlocksIn P Γ bl body) {ι : Type} (Inv : ι → St) (μ : ι → Nat) (ok : ι → Prop) (Out : St) (fuel : Nat) (ks js : Fg)
    (hn : Γ.n0 ≤ ks.nx) (hno : Γ.n0 ≤ js.nx)
    (round : ∀ i, ok i → (endOf ks js (exec cx draw bl fuel body (Inv i))).good fun r => match r.1 with
      | .normal => ∃ i', ok i' ∧ r.2 = Inv i' ∧ μ i' < μ i
      | .exit j => j = id ∧ r.2 = Out
      | .ret => False) (i : ι) (hi : ok i) :
    ∀ S e S', T.Reach (loopF ks (Inv i) Out S) (e, S') → Comes P Γ (.block id (.loop body)) S e S' := by
  have key : ∀ (n : Nat) (i : ι), μ i ≤ n → ok i → ∀ ρ a w, Rel Γ ρ (Inv i) a w → Code.rounds P body (Exit.inBlock id fun x a' w' => x = Ex.normal.to ∧ ∃ ρ', Rel Γ ρ' Out a' w') (n + 1) a w := by
    intro n
    induction n with
    | zero =>
      intro i hle hi ρ a w hrel
      rw [rounds_succ]
      have hround := round i hi
      unfold endOf at hround
      rw [T.good_bind] at hround
      obtain ⟨⟨e, S1⟩, hr, hq⟩ := T.reach_of_good hround
      refine wp_mono ((exec_sound hc hg h0 hd fuel).1 body _ S1 e hbl hr ρ a w hrel) fun x a' w' ⟨hx, ρ', hr'⟩ => ?_
      subst hx
      cases e with
      | normal =>
        have hq := (ifT_good hq).2
        obtain ⟨i', -, -, hlt⟩ := hq; omega
      | exit j =>
        have hq := ifT_good hq
        obtain ⟨hk, hj, ho⟩ := hq
        simp only [Ex.to, Exit.then, Exit.inBlock]
        rw [if_pos hj]
        simp only at ho
        rw [← ho]
        exact ⟨trivial, hr'.forget hk hno⟩
      | ret => exact hq.elim
    | succ n ih =>
      intro i hle hi ρ a w hrel
      rw [rounds_succ]
      have hround := round i hi
      unfold endOf at hround
      rw [T.good_bind] at hround
      obtain ⟨⟨e, S1⟩, hr, hq⟩ := T.reach_of_good hround
      refine wp_mono ((exec_sound hc hg h0 hd fuel).1 body _ S1 e hbl hr ρ a w hrel) fun x a' w' ⟨hx, ρ', hr'⟩ => ?_
      subst hx
      cases e with
      | normal =>
        have hq := ifT_good hq
        obtain ⟨hk, i', hi', he, hlt⟩ := hq
        obtain ⟨ρ2, hr2⟩ := hr'.forget hk hn
        simp only at he
        rw [he] at hr2
        exact ih i' (by omega) hi' ρ2 a' w' hr2
      | exit j =>
        have hq := ifT_good hq
        obtain ⟨hk, hj, ho⟩ := hq
        simp only [Ex.to, Exit.then, Exit.inBlock]
        rw [if_pos hj]
        simp only at ho
        rw [← ho]
        exact ⟨trivial, hr'.forget hk hno⟩
      | ret => exact hq.elim
  intro S e S' hreach ρ a w hrel
  have hreach := ifT_reach hreach
  simp only [T.reach_need, T.reach_ret] at hreach
  obtain ⟨hk, hs, he⟩ := hreach
  cases he
  obtain ⟨ρ2, hr2⟩ := hrel.forget hk hn
  rw [hs] at hr2
  exact wp_block (wp_loop_rounds (μ i + 1) (key (μ i) i (Nat.le_refl _) hi ρ2 a w hr2))
end

/-- The bodies of the blocks of one name. -/
def blksL : Code → Nat → List Code
  | .seq a b, i => blksL a i ++ blksL b i
  | .cond _ a b, i => blksL a i ++ blksL b i
  | .block j b, i => match Nat.beq j i with
    | true => b :: blksL b i
    | false => blksL b i
  | .loop b, i => blksL b i
  | .scope b, i => blksL b i
  | _, _ => []

theorem blocksIn_of {P : Program} {Γ : Gam} {bl : Blocks} : ∀ c : Code, (∀ id f, bl id = some f → ∀ b ∈ blksL c id, ∀ S e S', T.Reach (f S) (e, S') → Comes P Γ (.block id b) S e S') → BlocksIn P Γ bl c := by
  intro c
  induction c with
  | seq a b iha ihb => exact fun h => ⟨iha fun id f hf x hx => h id f hf x (by simp [blksL, hx]), ihb fun id f hf x hx => h id f hf x (by simp [blksL, hx])⟩
  | cond c a b iha ihb => exact fun h => ⟨iha fun id f hf x hx => h id f hf x (by simp [blksL, hx]), ihb fun id f hf x hx => h id f hf x (by simp [blksL, hx])⟩
  | block j b ih =>
    intro h
    simp only [BlocksIn]
    split
    · rename_i f hf
      exact h j f hf b (by simp [blksL])
    · refine ih fun id f hf x hx => h id f hf x ?_
      simp only [blksL]
      split
      · simp [hx]
      · exact hx
  | loop b ih => exact fun h => ih h
  | scope b ih => exact fun h => ih h
  | _ => intro _; trivial

theorem fn_ok_den {P : Program} {G : World → Prop} {cx : Cx} (hc : CxOk P G cx) {gm : Mem} (hgm : GlobIs G gm) {f : FuncId} {fn : Func} {c : Code} (hf : P.funcs[f]? = some fn) (hb : fn.body = some c) {bl : Blocks} {fuel : Nat} {args : List SV} {v : SV}
    (hargs : ∀ x ∈ args, Closed x) (hv : Closed v) (hbl : ∀ Γ : Gam, Γ.G = G → Γ.G Γ.w0 → GlobOk Γ → Γ.n0 = 0 → BlocksIn P Γ bl c)
    (hr : (runFn cx (drawS cx) bl fuel c fn.ntmps fn.results.toList args gm 0).good fun r => ∀ ρ, r.1.den ρ = v.den ρ) (ρ : Env) (w : World) (hw : G w) :
    Calls P f (denL ρ args).toArray w (fun e w' => e = .returned (v.den ρ) ∧ Below w.heap.size w w') := by
  obtain ⟨⟨u, S'⟩, hreach, hu⟩ := T.reach_of_good hr
  simp only at hu
  have hrel := entry_rel hgm hargs fn.ntmps ρ w hw
  have hg : GlobOk ⟨w, ⟨fun i => i - 1000000, fun _ => 0, fun _ => 0, ρ.junk, ρ.vec⟩, 0, G, fun _ _ => False, 0⟩ := fun g => ⟨by simp [gid], rfl⟩
  have hcall := runFn_sound (Γ := ⟨w, ⟨fun i => i - 1000000, fun _ => 0, fun _ => 0, ρ.junk, ρ.vec⟩, 0, G, fun _ _ => False, 0⟩) hc hg hw (drawS_sound hc hg hw) hf hb (hbl _ rfl hw hg rfl) hreach hrel
  have hden : (denL ⟨fun i => i - 1000000, fun _ => 0, fun _ => 0, ρ.junk, ρ.vec⟩ args) = denL ρ args := by
    rw [denL_eq, denL_eq]
    exact List.map_congr_left fun x hx => (hargs x hx).den _ _
  rw [hden] at hcall
  exact hcall.mono fun e w' ⟨ρ', a', he, hr', _⟩ => ⟨by rw [he, hu, hv.den ρ' ρ], hr'.below⟩

/-- **A function's contract, by its run, with rules for its loops.** -/
theorem fnOk_lp {P : Program} {G : World → Prop} {cx : Cx} (hc : CxOk P G cx) {gm : Mem} (hgm : GlobIs G gm) {g : FuncId} {fn : Func} {c : Code} (hf : P.funcs[g]? = some fn) (hb : fn.body = some c) (hent : ∀ args w, (callFunc g args).run P w = .ok (.enter g args) w)
    {fuel : Nat} {ks : List AK} {pre : List AV → Prop} {ks' : List AK} {res : List AV → List AV}
    (h : ∀ as, fit ks as → pre as → ∃ bl : Blocks, (∀ Γ : Gam, Γ.G = G → Γ.G Γ.w0 → GlobOk Γ → Γ.n0 = 0 → BlocksIn P Γ bl c) ∧ fit ks' (res as) ∧ (runX cx bl fuel fn c (can ks as) gm).good fun u => u = outV ks' (res as)) : FnOk P G g (ct ks pre ks' res) := by
  refine ⟨fun args v hw hr => ?_, fun args v hr p => ?_, hent, fun args v hw hr ρ w hG => ?_⟩
  · obtain ⟨as, ha, hr⟩ := spG_reach hr
    simp only [ctF, T.reach_need, T.reach_ret] at hr
    obtain ⟨hp, rfl⟩ := hr
    obtain ⟨bl, -, h1, -⟩ := h as (parse_spec ha hw).1 hp
    exact outV_closed h1
  · obtain ⟨as, ha, hr⟩ := spG_reach hr
    simp only [ctF, T.reach_need, T.reach_ret] at hr
    obtain ⟨-, rfl⟩ := hr
    exact outV_ids _ _ _
  · obtain ⟨as, ha, hr⟩ := spG_reach hr
    simp only [ctF, T.reach_need, T.reach_ret] at hr
    obtain ⟨hp, rfl⟩ := hr
    obtain ⟨h1, h2, h3⟩ := parse_spec ha hw
    obtain ⟨bl, hbl, h4, hrun⟩ := h as h1 hp
    rw [← h2 ρ]
    exact fn_ok hc hgm hf hb h3 (outV_closed h4) hbl (valOf_good hrun) ρ w hG

/-- **A function's contract, by its run, with rules for its loops; the value as it reads.** -/
theorem fnOk_den {P : Program} {G : World → Prop} {cx : Cx} (hc : CxOk P G cx) {gm : Mem} (hgm : GlobIs G gm) {g : FuncId} {fn : Func} {c : Code} (hf : P.funcs[g]? = some fn) (hb : fn.body = some c) (hent : ∀ args w, (callFunc g args).run P w = .ok (.enter g args) w)
    {fuel : Nat} {ks : List AK} {pre : List AV → Prop} {ks' : List AK} {res : List AV → List AV}
    (h : ∀ as, fit ks as → pre as → ∃ bl : Blocks, (∀ Γ : Gam, Γ.G = G → Γ.G Γ.w0 → GlobOk Γ → Γ.n0 = 0 → BlocksIn P Γ bl c) ∧ fit ks' (res as) ∧ (runX cx bl fuel fn c (can ks as) gm).good fun u => ∀ ρ, u.den ρ = (outV ks' (res as)).den ρ) : FnOk P G g (ct ks pre ks' res) := by
  refine ⟨fun args v hw hr => ?_, fun args v hr p => ?_, hent, fun args v hw hr ρ w hG => ?_⟩
  · obtain ⟨as, ha, hr⟩ := spG_reach hr
    simp only [ctF, T.reach_need, T.reach_ret] at hr
    obtain ⟨hp, rfl⟩ := hr
    obtain ⟨bl, -, h1, -⟩ := h as (parse_spec ha hw).1 hp
    exact outV_closed h1
  · obtain ⟨as, ha, hr⟩ := spG_reach hr
    simp only [ctF, T.reach_need, T.reach_ret] at hr
    obtain ⟨-, rfl⟩ := hr
    exact outV_ids _ _ _
  · obtain ⟨as, ha, hr⟩ := spG_reach hr
    simp only [ctF, T.reach_need, T.reach_ret] at hr
    obtain ⟨hp, rfl⟩ := hr
    obtain ⟨h1, h2, h3⟩ := parse_spec ha hw
    obtain ⟨bl, hbl, h4, hrun⟩ := h as h1 hp
    rw [← h2 ρ]
    exact fn_ok_den hc hgm hf hb h3 (outV_closed h4) hbl (valOf_good hrun) ρ w hG
/-- One side of each branch, as a list tells; what is not taken is owed. -/
def prune {α : Type} : T α → List Bool → T α
  | .ret a, _ => .ret a
  | .fail s, _ => .fail s
  | .need p t, ds => .need p (prune t ds)
  | .ite b t e, [] => .ite b t e
  | .ite b t e, d :: ds => match d with
    | true => .need (b = true) (prune t ds)
    | false => .need (b = false) (prune e ds)

theorem good_of_prune {α : Type} {Q : α → Prop} : ∀ (t : T α) (ds : List Bool), (prune t ds).good Q → t.good Q
  | .ret a, _, h => h
  | .fail s, _, h => h
  | .need p t, ds, h => ⟨h.1, good_of_prune t ds h.2⟩
  | .ite b t e, [], h => h
  | .ite b t e, d :: ds, h => by
    cases d with
    | true =>
      obtain ⟨hb, h⟩ := h
      subst hb
      exact ⟨fun _ => good_of_prune t ds h, fun hc => by cases hc⟩
    | false =>
      obtain ⟨hb, h⟩ := h
      subst hb
      exact ⟨fun hc => (by cases hc), fun _ => good_of_prune e ds h⟩

/-- A premise, so often as it is asked. -/
def dup {α : Type} : Nat → Prop → T α → T α
  | 0, _, t => t
  | n + 1, p, t => .need p (dup n p t)

theorem dup_good {α : Type} {Q : α → Prop} {p : Prop} {t : T α} (hp : p) (h : t.good Q) : ∀ n, (dup n p t).good Q
  | 0 => h
  | n + 1 => ⟨hp, dup_good hp h n⟩
end Go.Sx

/- The symbolic layer: contracts at points (tables), and runs in which nothing is open. -/
namespace Go.Sx

def AV.same : AV → AV → Bool
  | .n x, .n y => decide (x = y)
  | .l x, .l y => decide (x = y)
  | .b x, .b y => x == y
  | .a x, .a y => decide (x = y)
  | _, _ => false

theorem AV.same_eq {a b : AV} (h : a.same b = true) : a = b := by
  cases a <;> cases b <;> simp_all [AV.same]

def sameL : List AV → List AV → Bool
  | [], [] => true
  | a :: as, b :: bs => match a.same b with
    | true => sameL as bs
    | false => false
  | _, _ => false

theorem sameL_eq : ∀ {a b : List AV}, sameL a b = true → a = b
  | [], [], _ => rfl
  | [], _ :: _, h => by cases h
  | _ :: _, [], h => by cases h
  | a :: as, b :: bs, h => by
    simp only [sameL] at h
    split at h
    · rename_i h1; rw [AV.same_eq h1, sameL_eq h]
    · cases h

def rowAt : List (List AV × List AV) → List AV → Option (List AV)
  | [], _ => none
  | (k, v) :: l, as => match sameL k as with
    | true => some v
    | false => rowAt l as

theorem rowAt_mem : ∀ {l : List (List AV × List AV)} {as v : List AV}, rowAt l as = some v → (as, v) ∈ l
  | [], _, _, h => by cases h
  | (k, u) :: l, as, v, h => by
    simp only [rowAt] at h
    split at h
    · rename_i h1; cases h; rw [sameL_eq h1]; simp
    · exact List.mem_cons_of_mem _ (rowAt_mem h)

def tabF (ks' : List AK) (l : List (List AV × List AV)) (as : List AV) : T SV := match rowAt l as with
  | some rs => .ret (outV ks' rs)
  | none => .fail "a table without this row"

/-- **A contract at points.** -/
theorem FnOk.tab {P : Program} {G : World → Prop} {g : FuncId} {ks : List AK} {pre : List AV → Prop} {ks' : List AK} {res : List AV → List AV} (h : FnOk P G g (ct ks pre ks' res)) (l : List (List AV × List AV))
    (hl : ∀ row ∈ l, pre row.1 ∧ res row.1 = row.2) : FnOk P G g (spG ks (tabF ks' l)) := by
  have key : ∀ args v, T.Reach (spG ks (tabF ks' l) args) v → T.Reach (ct ks pre ks' res args) v := by
    intro args v hr
    obtain ⟨as, ha, hr⟩ := spG_reach hr
    unfold tabF at hr
    split at hr
    · rename_i rs hrow
      rw [T.reach_ret] at hr; subst hr
      obtain ⟨h1, h2⟩ := hl _ (rowAt_mem hrow)
      unfold ct spG
      rw [ha]
      simp only [ctF, T.reach_need, T.reach_ret]
      simp only at h1 h2
      exact ⟨h1, by rw [h2]⟩
    · exact (T.reach_fail hr).elim
  exact ⟨fun args v hw hr => h.closed args v hw (key args v hr), fun args v hr => h.ids args v (key args v hr), h.enters, fun args v hw hr => h.call args v hw (key args v hr)⟩

theorem FnOk.tab1 {P : Program} {G : World → Prop} {g : FuncId} {ks : List AK} {pre : List AV → Prop} {ks' : List AK} {res : List AV → List AV} (h : FnOk P G g (ct ks pre ks' res)) (k v : List AV) (h1 : pre k) (h2 : res k = v) :
    FnOk P G g (spG ks (tabF ks' [(k, v)])) := h.tab _ fun row hr => by
  rw [List.mem_singleton] at hr
  subst hr
  exact ⟨h1, h2⟩
theorem FnOk.tab2 {P : Program} {G : World → Prop} {g : FuncId} {ks : List AK} {pre : List AV → Prop} {ks' : List AK} {res : List AV → List AV} (h : FnOk P G g (ct ks pre ks' res)) (k v k' v' : List AV) (h1 : pre k) (h2 : res k = v) (h3 : pre k') (h4 : res k' = v') :
    FnOk P G g (spG ks (tabF ks' [(k, v), (k', v')])) := h.tab _ fun row hr => by
  simp only [List.mem_cons, List.not_mem_nil, or_false] at hr
  rcases hr with rfl | rfl
  · exact ⟨h1, h2⟩
  · exact ⟨h3, h4⟩

/-- A run in which nothing is open, and that comes to true. -/
def comesTrue : T SV → Bool
  | .ret v => match v with
    | .tt => true
    | .bool b => b
    | _ => false
  | .ite b t e => match b with
    | true => comesTrue t
    | false => comesTrue e
  | .need _ _ => false
  | .fail _ => false

theorem comesTrue_good : ∀ {t : T SV}, comesTrue t = true → t.good fun u => ∀ ρ, u.den ρ = .bool true
  | .ret v, h => by
    intro ρ
    cases v <;> simp [comesTrue] at h <;> simp [SV.den, h]
  | .ite b t e, h => by
    cases b with
    | true => exact ⟨fun _ => comesTrue_good h, fun hc => by cases hc⟩
    | false => exact ⟨fun hc => (by cases hc), fun _ => comesTrue_good h⟩
  | .need _ _, h => by cases h
  | .fail _, h => by cases h

/-- A function without arguments that answers true. -/
def upF : List SV → T SV
  | [] => .ret .tt
  | _ => .fail "arguments"

theorem upF_of {P : Program} {G : World → Prop} {cx : Cx} (hc : CxOk P G cx) {gm : Mem} (hgm : GlobIs G gm) {g : FuncId} {fn : Func} {c : Code} (hf : P.funcs[g]? = some fn) (hb : fn.body = some c) (hent : ∀ args w, (callFunc g args).run P w = .ok (.enter g args) w)
    {bl : Blocks} {fuel : Nat} (hbl : ∀ Γ : Gam, Γ.G = G → Γ.G Γ.w0 → GlobOk Γ → Γ.n0 = 0 → BlocksIn P Γ bl c)
    (h : (runX cx bl fuel fn c [] gm).good fun u => ∀ ρ, u.den ρ = .bool true) : FnOk P G g upF := by
  have ht : Closed .tt := ⟨fun _ _ => by simp [SV.den], fun _ => by simp [SV.ids], by simp only [wf]⟩
  have key : ∀ args v, T.Reach (upF args) v → args = [] ∧ v = .tt := by
    intro args v hr
    unfold upF at hr
    split at hr
    · rw [T.reach_ret] at hr; exact ⟨rfl, hr⟩
    · exact (T.reach_fail hr).elim
  refine ⟨fun args v hw hr => ?_, fun args v hr p => ?_, hent, fun args v hw hr ρ w hG => ?_⟩
  · obtain ⟨-, rfl⟩ := key args v hr; exact ht
  · obtain ⟨-, rfl⟩ := key args v hr; exact ht.ids p
  · obtain ⟨rfl, rfl⟩ := key args v hr
    have := fn_ok_den hc hgm hf hb (args := []) (v := .tt) (fun x hx => by cases hx) ht hbl (valOf_good (Q := fun u => ∀ ρ, u.den ρ = SV.den ρ .tt) (T.good_mono h fun u hu ρ => by rw [hu ρ]; simp [SV.den])) ρ w hG
    exact this
/-- 'good', shut: so that no run is unfolded where it is only handed on. -/
structure Gd {α : Type} (t : T α) (Q : α → Prop) : Prop where
  good : t.good Q

theorem Gd.of_run {α : Type} {Q : α → Prop} {t m : T α} {ds : List Bool} (h : prune t ds = m) (hm : Gd m Q) : Gd t Q := ⟨good_of_prune t ds (by rw [h]; exact hm.good)⟩
theorem Gd.of_eq {α : Type} {Q : α → Prop} {t m : T α} (h : t = m) (hm : Gd m Q) : Gd t Q := h ▸ hm
theorem Gd.of_true {t : T SV} (h : comesTrue t = true) : Gd t fun u => ∀ ρ, u.den ρ = .bool true := ⟨comesTrue_good h⟩

/-- **A function's contract, by its run, with rules for its loops; the value as it reads; the run shut.** -/
theorem fnOk_gd {P : Program} {G : World → Prop} {cx : Cx} (hc : CxOk P G cx) {gm : Mem} (hgm : GlobIs G gm) {g : FuncId} {fn : Func} {c : Code} (hf : P.funcs[g]? = some fn) (hb : fn.body = some c) (hent : ∀ args w, (callFunc g args).run P w = .ok (.enter g args) w)
    {fuel : Nat} {ks : List AK} {pre : List AV → Prop} {ks' : List AK} {res : List AV → List AV}
    (h : ∀ xs, fit ks xs → pre xs → ∃ bl : Blocks, (∀ Γ : Gam, Γ.G = G → Γ.G Γ.w0 → GlobOk Γ → Γ.n0 = 0 → BlocksIn P Γ bl c) ∧ fit ks' (res xs) ∧ Gd (runX cx bl fuel fn c (can ks xs) gm) fun u => ∀ ρ, u.den ρ = (outV ks' (res xs)).den ρ) : FnOk P G g (ct ks pre ks' res) :=
  fnOk_den hc hgm hf hb hent fun xs h1 h2 => by
    obtain ⟨bl, h3, h4, h5⟩ := h xs h1 h2
    exact ⟨bl, h3, h4, h5.good⟩

theorem fit_l3 {k k' k'' : IntKind} {n n' n'' : Nat} {xs : List AV} (h : fit [.ints k n, .ints k' n', .ints k'' n''] xs) : ∃ a b c, xs = [.l a, .l b, .l c] ∧ a.length = n ∧ b.length = n' ∧ c.length = n'' := by
  match xs, h with
  | [a, b, c], h =>
    obtain ⟨h1, h2, h3, -⟩ := h
    cases a <;> cases b <;> cases c <;> first | exact ⟨_, _, _, rfl, h1, h2, h3⟩ | exact h1.elim | exact h2.elim | exact h3.elim
  | [], h => exact h.elim
  | [_], h => exact h.2.elim
  | [_, _], h => exact h.2.2.elim
  | _ :: _ :: _ :: _ :: _, h => exact h.2.2.2.elim

theorem fit_l4 {k k' k'' k''' : IntKind} {n n' n'' n''' : Nat} {xs : List AV} (h : fit [.ints k n, .ints k' n', .ints k'' n'', .ints k''' n'''] xs) : ∃ a b c d, xs = [.l a, .l b, .l c, .l d] ∧ a.length = n ∧ b.length = n' ∧ c.length = n'' ∧ d.length = n''' := by
  match xs, h with
  | a :: l, h =>
    obtain ⟨b, c, d, rfl, h2, h3, h4⟩ := fit_l3 (xs := l) h.2
    have h1 := h.1
    cases a <;> first | exact ⟨_, _, _, _, rfl, h1, h2, h3, h4⟩ | exact h1.elim
  | [], h => exact h.elim
theorem fit_0 {xs : List AV} (h : fit [] xs) : xs = [] := by
  cases xs with
  | nil => rfl
  | cons a l => exact h.elim
end Go.Sx

/- The symbolic layer: functions that are walked into where they are called (closures that write what they hold). -/
namespace Go.Sx
open Go.RowKit (Below)

/-- Names are below the next one, or a variable's. -/
def namesOk (n : Nat) : Mem → Bool
  | [] => true
  | (i, _) :: m => (match Nat.blt i n with
    | true => true
    | false => Nat.ble 1000000 i) && namesOk n m

def plainB : SV → Bool
  | .lit _ _ | .int _ _ | .tt | .ff | .bool _ => true
  | .tup [] => true
  | _ => false

def inlOkB (S : St) (v : SV) (S2 : St) : Bool := namesOk S.next S.mem && plainB v && memNj S2.mem S2.mem && keysOk S2.mem && idsLB S2.mem S.tmps && memIds S2.mem S2.mem

/-- A function walked into. -/
def inlFn (cx : Cx) (bl : Blocks) (fuel : Nat) (fn : Func) (c : Code) (args : List SV) (S : St) : T (SV × St) :=
  (runFn cx (drawS cx) bl fuel c fn.ntmps fn.results.toList args S.mem S.next).bind fun r => ifT (inlOkB S r.1 r.2) (.ret (r.1, ⟨S.tmps, r.2.mem, r.2.next⟩))

theorem namesOk_spec {n : Nat} : ∀ {m : Mem}, namesOk n m = true → ∀ i, (look m i).isSome = true → i < n ∨ 1000000 ≤ i
  | [], _, i, h => by simp [look] at h
  | (j, b) :: m, hk, i, h => by
    simp only [namesOk, Bool.and_eq_true] at hk
    simp only [look] at h
    split at h
    · rename_i hj
      have := Nat.eq_of_beq_eq_true hj
      subst this
      have h1 := hk.1
      split at h1
      · rename_i hb; exact .inl (Nat.le_of_ble_eq_true hb)
      · exact .inr (Nat.le_of_ble_eq_true h1)
    · exact namesOk_spec hk.2 i h

theorem memNj_look {m : Mem} : ∀ {l : Mem}, memNj m l = true → ∀ i b, look l i = some b → b.nj = true
  | [], _, i, b, h => by cases h
  | (j, c) :: l, hk, i, b, h => by
    simp only [memNj, Bool.and_eq_true] at hk
    simp only [look] at h
    split at h
    · cases h; exact hk.1
    · exact memNj_look hk.2 i b h

theorem plainB_spec {v : SV} (h : plainB v = true) : wf v ∧ (∀ p, v.ids p) ∧ ∀ ρ ρ', v.den ρ = v.den ρ' := by
  unfold plainB at h
  split at h
  all_goals first
    | (cases h; done)
    | exact ⟨by simp only [wf, wfL], fun p => by simp only [SV.ids, idsL], fun ρ ρ' => by simp only [SV.den, denL]⟩

theorem inlFn_sound {P : Program} {Γ : Gam} {cx : Cx} (hc : CxOk P Γ.G cx) (h0 : Γ.G Γ.w0) (hg : GlobOk Γ) {bl : Blocks} {fuel : Nat} {f : FuncId} {fn : Func} {c : Code} (hf : P.funcs[f]? = some fn) (hb : fn.body = some c)
    (hbl : ∀ Γ' : Gam, Γ'.G = Γ.G → Γ'.G Γ'.w0 → GlobOk Γ' → BlocksIn P Γ' bl c) :
    ∀ args S v S', (∀ x ∈ args, wf x) → idsL S.has args → T.Reach (inlFn cx bl fuel fn c args S) (v, S') → ∀ ρ a w, Rel Γ ρ S a w →
      Calls P f (denL ρ args).toArray w (fun e w' => ∃ ρ', e = .returned (v.den ρ') ∧ Rel Γ ρ' S' a w' ∧ wf v ∧ v.ids S'.has) := by
  intro args S v S' hwf hids hr ρ a w hrel
  unfold inlFn at hr
  rw [T.reach_bind] at hr
  obtain ⟨⟨v2, S2⟩, h1, h2⟩ := hr
  obtain ⟨hk, h2⟩ := ifT_reach h2
  rw [T.reach_ret] at h2
  cases h2
  simp only [inlOkB, Bool.and_eq_true] at hk
  obtain ⟨⟨⟨⟨⟨k1, k2⟩, k3⟩, k4⟩, k5⟩, k6⟩ := hk
  let Γ' : Gam := ⟨Γ.w0, ρ, S.next, Γ.G, fun D o => Keep ρ S.mem w D o, w.heap.size⟩
  have hg' : GlobOk Γ' := fun g => by
    obtain ⟨e1, e2⟩ := hg g
    have p1 := hrel.pin.blk (gid g) (.inr (by simp [gid]))
    have p2 := hrel.pin.off (gid g) (.inr (by simp [gid]))
    exact ⟨p1.trans e1, p2.trans e2⟩
  have hrel' : Rel Γ' ρ { tmps := entryTmps args fn.ntmps, mem := S.mem, next := S.next } { tmps := (denL ρ (entryTmps args fn.ntmps)).toArray, defers := [] } w := by
    refine ⟨rfl, .none (fun _ _ h => h) (Nat.le_refl _), hrel.mem, hrel.dj, hrel.below, ⟨fun _ _ => rfl, fun _ _ => rfl, fun _ _ => rfl, fun _ _ => rfl⟩, Nat.le_refl _, fun x hx => ?_, idsL_iff.2 fun x hx => ?_⟩
    · simp only [entryTmps, List.mem_append, List.mem_replicate] at hx
      rcases hx with hx | ⟨-, rfl⟩
      · exact hwf x hx
      · simp only [wf]
    · simp only [entryTmps, List.mem_append, List.mem_replicate] at hx
      rcases hx with hx | ⟨-, rfl⟩
      · exact idsL_iff.1 hids x hx
      · simp only [SV.ids]
  have hcx' : CxOk P Γ'.G cx := hc
  have hcall := runFn_sound (Γ := Γ') hcx' hg' h0 (drawS_sound hcx' hg' h0) hf hb (hbl Γ' rfl h0 hg') h1 hrel'
  refine hcall.mono fun e w' ⟨ρ', a', he, hr', _⟩ => ?_
  obtain ⟨p1, p2, p3⟩ := plainB_spec k2
  have hag : Agree S.has ρ (ρ'.withJunk ρ.junk) := by
    have hpin : ∀ i, S.has i → Γ'.pinned i := fun i hi => namesOk_spec k1 i hi
    exact ⟨fun i hi => hr'.pin.blk i (hpin i hi), fun i hi => hr'.pin.off i (hpin i hi), fun i hi => hr'.pin.cap i (hpin i hi), fun i hi => hr'.pin.vec i (hpin i hi), rfl⟩
  refine ⟨ρ'.withJunk ρ.junk, by rw [he, p3 ρ' (ρ'.withJunk ρ.junk)], ?_, p1, p2 _⟩
  have hcells : ∀ i b, look S2.mem i = some b → b.cells (ρ'.withJunk ρ.junk) = b.cells ρ' := fun i b hl => Blk.cells_junk ρ' ρ.junk (memNj_look k3 i b hl)
  refine ⟨?_, hrel.df.map hr'.df.2.2 fun D o hD => ⟨(hr'.df.2.1 D o hD).1, fun i b hl hp => by rw [phys_junk] at hp; exact (hr'.df.2.1 D o hD).2 i b hl hp⟩, ?_, ?_, hr'.below, ?_, Nat.le_trans hrel.nx hr'.nx, hrel.wfT, idsLB_spec _ k5⟩
  · show a.tmps = (denL (ρ'.withJunk ρ.junk) S.tmps).toArray
    rw [hrel.tm, denL_agree hag _ hrel.idT]
  · intro i b hl
    obtain ⟨hok, hi⟩ := hr'.mem i b hl
    have hcc := hcells i b hl
    refine ⟨⟨hok.atoms, ?_, ?_, hok.theirs, hok.vec⟩, memIds_look k6 i b hl⟩
    · rw [hcc]; exact hok.cell
    · rw [hcc]; exact hok.mine
  · intro i j b c' hi hj hne g hp hq
    rw [phys_junk] at hp hq
    exact hr'.dj i j b c' hi hj hne g hp hq
  · have hmono : ∀ i, Γ.pinned i → Γ'.pinned i := fun i hi => by
      rcases hi with hi | hi
      · exact .inl (Nat.lt_of_lt_of_le hi hrel.nx)
      · exact .inr hi
    exact ⟨fun i hi => (hr'.pin.blk i (hmono i hi)).trans (hrel.pin.blk i hi), fun i hi => (hr'.pin.off i (hmono i hi)).trans (hrel.pin.off i hi), fun i hi => (hr'.pin.cap i (hmono i hi)).trans (hrel.pin.cap i hi), fun i hi => (hr'.pin.vec i (hmono i hi)).trans (hrel.pin.vec i hi)⟩

/-- One function that is walked into. -/
def inlOne (g : FuncId) (h : List SV → St → T (SV × St)) : FuncId → Option (List SV → St → T (SV × St)) := fun i => match Nat.beq g i with
  | true => some h
  | false => none

def Cx.withInl (cx : Cx) (i : FuncId → Option (List SV → St → T (SV × St))) : Cx := ⟨cx.tab, cx.ext, cx.fn, i, cx.fnm⟩

theorem cxInl_ok {P : Program} {G : World → Prop} {cx : Cx} (hc : CxOk P G cx) {bl : Blocks} {fuel : Nat} {f : FuncId} {fn : Func} {c : Code} (hf : P.funcs[f]? = some fn) (hb : fn.body = some c) (hent : ∀ args w, (callFunc f args).run P w = .ok (.enter f args) w)
    (hbl : ∀ Γ' : Gam, Γ'.G = G → Γ'.G Γ'.w0 → GlobOk Γ' → BlocksIn P Γ' bl c) : CxOk P G (cx.withInl (inlOne f (inlFn cx bl fuel fn c))) := by
  refine ⟨hc.tab, hc.ext, hc.fn, hc.keep, hc.mixed, fun Γ hG h0 hg g h hh => ?_, fun Γ hG h0 hg g spec hs => hc.fnm Γ hG h0 hg g spec hs⟩
  simp only [Cx.withInl, inlOne] at hh
  split at hh
  · rename_i hj
    have := Nat.eq_of_beq_eq_true hj
    subst this
    cases hh
    subst hG
    exact ⟨hent, inlFn_sound hc h0 hg hf hb hbl⟩
  · cases hh
/-- What is taken of less holds of more. -/
theorem FnOk.mono {P : Program} {G G' : World → Prop} {g : FuncId} {spec : List SV → T SV} (h : FnOk P G g spec) (hG : ∀ w, G' w → G w) : FnOk P G' g spec :=
  ⟨h.closed, h.ids, h.enters, fun args v hw hr ρ w hg => h.call args v hw hr ρ w (hG w hg)⟩

end Go.Sx

/- The symbolic layer: contracts over arguments that hold slices. -/
namespace Go.Sx
open Go.RowKit (Below)

/-- Parts of a struct: rows of numbers, slices. -/
inductive PK where
  | i (k : IntKind) (n : Nat)
  | s (e : TypeId) (k : IntKind) (st : Nat)
inductive PV where
  | l (xs : List Int)
  | s (n : Nat) (xs : List Int)
inductive MK where
  | p (a : AK)
  | s (e : TypeId) (k : IntKind) (st : Nat)
  | x (ps : List PK)
inductive MV where
  | p (a : AV)
  | s (n : Nat) (xs : List Int)
  | x (ps : List PV)

/-- A slice, read. -/
def parseS (k : IntKind) (st : Nat) (v : SV) (vs : List (Option VI)) : Option (Nat × List Int × List (Option VI)) :=
  match v with
  | .sl _ => match vs with
    | some V :: r => match decide (V.k = k), Nat.beq V.st st with
      | true, true => some (V.n, V.cont, r)
      | _, _ => none
    | _ => none
  | .raw (.slice _ 0 0) => some (0, [], vs)
  | _ => none

def parseP : List PK → List SV → List (Option VI) → Option (List PV × List (Option VI))
  | [], [], vs => some ([], vs)
  | k :: ks, p :: ps, vs => match k with
    | .i k n => match asInts k n p with
      | some l => match parseP ks ps vs with
        | some (r, vs') => some (.l l :: r, vs')
        | none => none
      | none => none
    | .s _ k st => match parseS k st p vs with
      | some (n, l, vs1) => match parseP ks ps vs1 with
        | some (r, vs') => some (.s n l :: r, vs')
        | none => none
      | none => none
  | _, _, _ => none

def parseM : List MK → List SV → List (Option VI) → Option (List MV × List (Option VI))
  | [], [], vs => some ([], vs)
  | k :: ks, v :: ss, vs => match (match k with
    | .p k => match parse1 k v with
      | some a => some (.p a, vs)
      | none => none
    | .s _ k st => match parseS k st v vs with
      | some (n, l, vs1) => some (.s n l, vs1)
      | none => none
    | .x ks => match v with
      | .agg ps => match parseP ks ps vs with
        | some (r, vs1) => some (.x r, vs1)
        | none => none
      | _ => none : Option (MV × List (Option VI))) with
    | some (m, vs1) => match parseM ks ss vs1 with
      | some (r, vs') => some (m :: r, vs')
      | none => none
    | none => none
  | _, _, _ => none

def cntP : List PK → Nat
  | [] => 0
  | .i _ _ :: ks => cntP ks
  | .s _ _ _ :: ks => cntP ks + 1
def cntM : List MK → Nat
  | [] => 0
  | .p _ :: ks => cntM ks
  | .s _ _ _ :: ks => cntM ks + 1
  | .x ps :: ks => cntM ks + cntP ps

/-- The arguments, their slices named from j on. -/
def svP : List PK → List PV → Nat → List SV
  | .i k n :: ks, .l xs :: vs, j => .ints k n xs :: svP ks vs j
  | .s _ _ _ :: ks, .s _ _ :: vs, j => .sl j :: svP ks vs (j + 1)
  | _, _, _ => []
def svM : List MK → List MV → Nat → List SV
  | .p k :: ks, .p a :: vs, j => can1 k a :: svM ks vs j
  | .s _ _ _ :: ks, .s _ _ :: vs, j => .sl j :: svM ks vs (j + 1)
  | .x ps :: ks, .x us :: vs, j => .agg (svP ps us j) :: svM ks vs (j + cntP ps)
  | _, _, _ => []

def blP (own : Bool) : List PK → List PV → List Blk
  | .i _ _ :: ks, .l _ :: vs => blP own ks vs
  | .s e k st :: ks, .s n l :: vs => .vec own e k st n l :: blP own ks vs
  | _, _ => []
def blM (own : Bool) : List MK → List MV → List Blk
  | .p _ :: ks, .p _ :: vs => blM own ks vs
  | .s e k st :: ks, .s n l :: vs => .vec own e k st n l :: blM own ks vs
  | .x ps :: ks, .x us :: vs => blP own ps us ++ blM own ks vs
  | _, _ => []

def fitP : List PK → List PV → Prop
  | [], [] => True
  | .i _ n :: ks, .l xs :: vs => xs.length = n ∧ fitP ks vs
  | .s _ _ st :: ks, .s n l :: vs => l.length = n * st ∧ fitP ks vs
  | _, _ => False
def fitM : List MK → List MV → Prop
  | [], [] => True
  | .p k :: ks, .p a :: vs => fit1 k a ∧ fitM ks vs
  | .s _ _ st :: ks, .s n l :: vs => l.length = n * st ∧ fitM ks vs
  | .x ps :: ks, .x us :: vs => fitP ps us ∧ fitM ks vs
  | _, _ => False

/-- A row of blocks, named from j on. -/
def numb : Nat → List Blk → Mem
  | _, [] => []
  | j, b :: bs => (j, b) :: numb (j + 1) bs

theorem look_numb : ∀ (bs : List Blk) (j i : Nat) (b : Blk), look (numb j bs) i = some b → ∃ t, i = j + t ∧ bs[t]? = some b
  | [], j, i, b, h => by cases h
  | c :: bs, j, i, b, h => by
    simp only [numb, look] at h
    split at h
    · rename_i hj
      have := Nat.eq_of_beq_eq_true hj
      cases h
      exact ⟨0, by omega, rfl⟩
    · obtain ⟨t, h1, h2⟩ := look_numb bs (j + 1) i b h
      exact ⟨t + 1, by omega, by simpa using h2⟩

theorem look_numb_some : ∀ (bs : List Blk) (j t : Nat) (b : Blk), bs[t]? = some b → look (numb j bs) (j + t) = some b
  | [], j, t, b, h => by simp at h
  | c :: bs, j, t, b, h => by
    cases t with
    | zero => simp at h; subst h; simp [numb, look]
    | succ t =>
      simp only [numb, look]
      rw [beq_no (by omega)]
      have := look_numb_some bs (j + 1) t b (by simpa using h)
      rw [show j + (t + 1) = j + 1 + t from by omega]
      exact this

theorem look_append (m m' : Mem) (i : Nat) : look (m ++ m') i = match look m i with
    | some b => some b
    | none => look m' i := by
  induction m with
  | nil => rfl
  | cons x m ih =>
    obtain ⟨j, b⟩ := x
    simp only [List.cons_append, look]
    cases hj : Nat.beq j i with
    | true => rfl
    | false => exact ih

/-- What is known of the slices: their values, and what they hold. -/
structure CameB (own : Bool) (Q : IntKind → Nat → Value → Nat → List Int → Prop) (bs : List Blk) (vals : List Value) : Prop where
  len : vals.length = bs.length
  read : ∀ (t : Nat) (v : Value), vals[t]? = some v → ∃ (e : TypeId) (k : IntKind) (st n : Nat) (l : List Int), bs[t]? = some (Blk.vec own e k st n l) ∧ Q k st v n l ∧ sliceV v = v

section
variable {own : Bool} {Q : IntKind → Nat → Value → Nat → List Int → Prop}
theorem CameB.nil : CameB own Q [] [] := ⟨rfl, fun t v h => by simp at h⟩
theorem CameB.cons {bs : List Blk} {vals : List Value} (h : CameB own Q bs vals) {e : TypeId} {k : IntKind} {st n : Nat} {l : List Int} {v : Value} (hv : Q k st v n l) (hs : sliceV v = v) :
    CameB own Q (Blk.vec own e k st n l :: bs) (v :: vals) := ⟨by simp [h.len], fun t u hu => by
  cases t with
  | zero => simp at hu; subst hu; exact ⟨e, k, st, n, l, rfl, hv, hs⟩
  | succ t => simpa using h.read t u (by simpa using hu)⟩
theorem CameB.append {bs bs' : List Blk} {vals vals' : List Value} (h : CameB own Q bs vals) (h' : CameB own Q bs' vals') : CameB own Q (bs ++ bs') (vals ++ vals') := ⟨by simp [h.len, h'.len], fun t u hu => by
  rcases Nat.lt_or_ge t vals.length with hlt | hge
  · rw [List.getElem?_append_left hlt] at hu
    obtain ⟨e, k, st, n, l, h1, h2⟩ := h.read t u hu
    exact ⟨e, k, st, n, l, by rw [List.getElem?_append_left (by rw [← h.len]; exact hlt)]; exact h1, h2⟩
  · rw [List.getElem?_append_right hge] at hu
    obtain ⟨e, k, st, n, l, h1, h2⟩ := h'.read _ u hu
    exact ⟨e, k, st, n, l, by rw [List.getElem?_append_right (by rw [← h.len]; exact hge), ← h.len]; exact h1, h2⟩⟩
end

/-- The slices' values under a valuation, from j on. -/
def At (ρ : Env) (j : Nat) (vals : List Value) : Prop := ∀ (t : Nat) (v : Value), vals[t]? = some v → ρ.vec (j + t) = v
theorem At.head {ρ : Env} {j : Nat} {v : Value} {vals : List Value} (h : At ρ j (v :: vals)) : ρ.vec j = v := by simpa using h 0 v rfl
theorem At.tail {ρ : Env} {j : Nat} {v : Value} {vals : List Value} (h : At ρ j (v :: vals)) : At ρ (j + 1) vals := fun t u hu => by
  have := h (t + 1) u (by simpa using hu)
  rw [show j + 1 + t = j + (t + 1) from by omega]; exact this
theorem At.left {ρ : Env} {j : Nat} {a b : List Value} (h : At ρ j (a ++ b)) : At ρ j a := fun t u hu => h t u (by
  rw [List.getElem?_append_left (by
    rcases Nat.lt_or_ge t a.length with hl | hl
    · exact hl
    · rw [List.getElem?_eq_none hl] at hu; cases hu)]; exact hu)
theorem At.right {ρ : Env} {j : Nat} {a b : List Value} (h : At ρ j (a ++ b)) : At ρ (j + a.length) b := fun t u hu => by
  have := h (a.length + t) u (by rw [List.getElem?_append_right (by omega)]; simpa using hu)
  rw [show j + a.length + t = j + (a.length + t) from by omega]; exact this

theorem read_of {Γ : Gam} {ρ : Env} {S : St} {a : Act} {w : World} (h : Rel Γ ρ S a w) {i : Nat} {V : VI} (hV : vecAt S.mem i = some V) : VecRead w w.heap.size V.st (ρ.vec i) V.n (V.cont.map (Value.int V.k)) ∧ sliceV (ρ.vec i) = ρ.vec i := by
  obtain ⟨ao, c, e1, e2, e3⟩ := h.vec_cont hV
  refine ⟨?_, by rw [e1]; rfl⟩
  rcases e3 with e3 | ⟨g, o, e4, e5, e6⟩
  · have := vecCont_nil h hV e3
    exact ⟨by simp [this, e3], ao, c, e1, e2, .inl (by simp [this])⟩
  · refine ⟨by simpa using e5, ao, c, e1, e2, ?_⟩
    by_cases hn : V.cont = []
    · exact .inl (by simp [hn])
    · refine .inr ⟨g, o, e4, ?_, e6⟩
      obtain ⟨x, l, hx⟩ := List.exists_cons_of_ne_nil hn
      have := e6 0 (.int V.k x) (by rw [hx]; rfl)
      exact cell_lt this

/-- What is known when a slice is read. -/
def SlicesAre (P : Nat → Prop) (Q : IntKind → Nat → Value → Nat → List Int → Prop) (ρ : Env) (m : Mem) : Prop := ∀ {k : IntKind} {st : Nat} {v : SV} {rest : List (Option VI)} {n : Nat} {l : List Int} {vs' : List (Option VI)}, (∀ i ∈ slsV v, P i) →
  parseS k st v ((slsV v).map (vecAt m) ++ rest) = some (n, l, vs') → vs' = rest ∧ l.length = n * st ∧ ∃ val, Q k st val n l ∧ sliceV val = val ∧ v.den ρ = val

theorem parseS_spec {Γ : Gam} {ρ : Env} {S : St} {a : Act} {w : World} (h : Rel Γ ρ S a w) : SlicesAre (fun _ => True) (fun k st val n l => VecRead w w.heap.size st val n (l.map (Value.int k))) ρ S.mem := by
  intro k st v rest n l vs' hpp hp
  unfold parseS at hp
  split at hp
  · rename_i i
    simp only [slsV, List.map_cons, List.map_nil, List.singleton_append] at hp
    split at hp
    · rename_i V r hr
      simp only [List.cons.injEq] at hr
      obtain ⟨hV, rfl⟩ := hr
      split at hp
      · rename_i h1 h2
        have h1 := of_decide_eq_true h1
        have h2 := Nat.eq_of_beq_eq_true h2
        subst h1; subst h2
        cases hp
        obtain ⟨r1, r2⟩ := read_of h hV
        exact ⟨rfl, by simpa using r1.1, _, r1, r2, by simp only [SV.den, r2]⟩
      · cases hp
    · cases hp
  · rename_i ao
    simp only [slsV, List.map_nil, List.nil_append, Option.some.injEq, Prod.mk.injEq] at hp
    obtain ⟨rfl, rfl, rfl⟩ := hp
    exact ⟨rfl, by simp, (.slice ao 0 0), ⟨by simp, ao, 0, rfl, Nat.zero_le _, .inl rfl⟩, rfl, by simp only [SV.den]⟩
  · cases hp

theorem parseP_spec {own : Bool} {P : Nat → Prop} {Q : IntKind → Nat → Value → Nat → List Int → Prop} {ρ : Env} {m : Mem} (h : SlicesAre P Q ρ m) : ∀ {ks : List PK} {ps : List SV} {rest : List (Option VI)} {us : List PV} {vs' : List (Option VI)}, (∀ p ∈ ps, isAtom p) → (∀ i ∈ slsL ps, P i) → parseP ks ps ((slsL ps).map (vecAt m) ++ rest) = some (us, vs') →
    vs' = rest ∧ fitP ks us ∧ ∃ vals, vals.length = cntP ks ∧ CameB own Q (blP own ks us) vals ∧ ∀ ρ' j, At ρ' j vals → cellsL ρ' (svP ks us j) = cellsL ρ ps
  | [], [], rest, us, vs', _, _, hp => by
    simp only [parseP, slsL, List.map_nil, List.nil_append, Option.some.injEq, Prod.mk.injEq] at hp
    obtain ⟨rfl, rfl⟩ := hp
    exact ⟨rfl, trivial, [], rfl, CameB.nil, fun ρ' j _ => rfl⟩
  | [], _ :: _, rest, us, vs', _, _, hp => by simp [parseP] at hp
  | _ :: _, [], rest, us, vs', _, _, hp => by simp [parseP] at hp
  | .i k n :: ks, p :: ps, rest, us, vs', hw, hP, hp => by
    simp only [parseP] at hp
    split at hp
    · rename_i l hl
      have := asInts_spec hl
      subst this
      simp only [slsL, slsV, List.nil_append] at hp
      split at hp
      · rename_i r vs1 hr
        cases hp
        obtain ⟨rfl, h1, vals, h2, h3, h4⟩ := parseP_spec h (fun q hq => hw q (by simp [hq])) (fun i hi => hP i (by simp [slsL, hi])) hr
        have h0 := hw (.ints k n l) (by simp)
        simp only [isAtom] at h0
        exact ⟨rfl, ⟨h0, h1⟩, vals, h2, h3, fun ρ' j hj => by simp only [svP, cellsL, h4 ρ' j hj, SV.den]⟩
      · cases hp
    · cases hp
  | .s e k st :: ks, p :: ps, rest, us, vs', hw, hP, hp => by
    simp only [parseP] at hp
    simp only [slsL, List.map_append, List.append_assoc] at hp
    split at hp
    · rename_i n l vs1 hs
      obtain ⟨rfl, l1, val, l2, l3, l4⟩ := h (fun i hi => hP i (by simp [slsL, hi])) hs
      split at hp
      · rename_i r vs2 hr
        cases hp
        obtain ⟨rfl, h1, vals, h2, h3, h4⟩ := parseP_spec h (fun q hq => hw q (by simp [hq])) (fun i hi => hP i (by simp [slsL, hi])) hr
        refine ⟨rfl, ⟨l1, h1⟩, val :: vals, by simp [h2, cntP], h3.cons l2 l3, fun ρ' j hj => ?_⟩
        simp only [svP, cellsL, h4 ρ' _ hj.tail, SV.den, hj.head, l3, l4]
      · cases hp
    · cases hp

theorem parseM_spec {own : Bool} {P : Nat → Prop} {Q : IntKind → Nat → Value → Nat → List Int → Prop} {ρ : Env} {m : Mem} (h : SlicesAre P Q ρ m) : ∀ {ks : List MK} {ss : List SV} {rest : List (Option VI)} {us : List MV} {vs' : List (Option VI)}, (∀ p ∈ ss, wf p) → (∀ i ∈ slsL ss, P i) → parseM ks ss ((slsL ss).map (vecAt m) ++ rest) = some (us, vs') →
    vs' = rest ∧ fitM ks us ∧ ∃ vals, vals.length = cntM ks ∧ CameB own Q (blM own ks us) vals ∧ ∀ ρ' j, At ρ' j vals → denL ρ' (svM ks us j) = denL ρ ss
  | [], [], rest, us, vs', _, _, hp => by
    simp only [parseM, slsL, List.map_nil, List.nil_append, Option.some.injEq, Prod.mk.injEq] at hp
    obtain ⟨rfl, rfl⟩ := hp
    exact ⟨rfl, trivial, [], rfl, CameB.nil, fun ρ' j _ => rfl⟩
  | [], _ :: _, rest, us, vs', _, _, hp => by simp [parseM] at hp
  | _ :: _, [], rest, us, vs', _, _, hp => by simp [parseM] at hp
  | k :: ks, v :: ss, rest, us, vs', hw, hP, hp => by
    simp only [parseM] at hp
    simp only [slsL, List.map_append, List.append_assoc] at hp
    cases k with
    | p k =>
      simp only at hp
      cases ha : parse1 k v with
      | none => rw [ha] at hp; cases hp
      | some x =>
        rw [ha] at hp
        simp only at hp
        split at hp
        · rename_i r vs2 hr
          cases hp
          have hsl : slsV v = [] := by
            cases k <;> simp only [parse1] at ha
            · simp only [Option.map_eq_some_iff] at ha
              obtain ⟨y, ha, -⟩ := ha
              unfold asNum at ha
              split at ha
              · rename_i b k' n hn; cases v <;> simp [numOf] at hn <;> rfl
              · cases ha
            · simp only [Option.map_eq_some_iff] at ha
              obtain ⟨y, ha, -⟩ := ha
              rw [asInts_spec ha]; rfl
            · simp only [Option.map_eq_some_iff] at ha
              obtain ⟨y, ha, -⟩ := ha
              cases v <;> simp [boolOf] at ha <;> rfl
            · split at ha
              · rename_i ps
                simp only [Option.map_eq_some_iff] at ha
                obtain ⟨y, ha, -⟩ := ha
                have hwv := hw (.agg ps) (by simp)
                simp only [wf] at hwv
                obtain ⟨e1, -⟩ := asParts_spec ha (atomsL_iff.1 hwv)
                rw [e1]
                simp only [slsV]
                have : ∀ (ks : List (IntKind × Nat)) (ls : List (List Int)), slsL (partsOf ks ls) = [] := by
                  intro ks
                  induction ks with
                  | nil => intro ls; cases ls <;> rfl
                  | cons k ks ih => intro ls; cases ls with
                    | nil => rfl
                    | cons l ls => simp [partsOf, slsL, slsV, ih]
                exact this _ _
              · cases ha
          rw [hsl, List.map_nil, List.nil_append] at hr
          obtain ⟨rfl, h1, vals, h2, h3, h4⟩ := parseM_spec h (fun q hq => hw q (by simp [hq])) (fun i hi => hP i (by simp [slsL, hi])) hr
          obtain ⟨f1, d1⟩ := parse1_spec ha (hw v (by simp))
          refine ⟨rfl, ⟨f1, h1⟩, vals, h2, h3, fun ρ' j hj => ?_⟩
          simp only [svM, denL, h4 ρ' j hj, ← d1 ρ]
          rw [(can1_closed f1).den ρ' ρ]
        · cases hp
    | s e k st =>
      simp only at hp
      cases hs : parseS k st v ((slsV v).map (vecAt m) ++ ((slsL ss).map (vecAt m) ++ rest)) with
      | none => rw [hs] at hp; cases hp
      | some x =>
        obtain ⟨n, l, vs1⟩ := x
        rw [hs] at hp
        simp only at hp
        obtain ⟨rfl, l1, val, l2, l3, l4⟩ := h (fun i hi => hP i (by simp [slsL, hi])) hs
        split at hp
        · rename_i r vs2 hr
          cases hp
          obtain ⟨rfl, h1, vals, h2, h3, h4⟩ := parseM_spec h (fun q hq => hw q (by simp [hq])) (fun i hi => hP i (by simp [slsL, hi])) hr
          refine ⟨rfl, ⟨l1, h1⟩, val :: vals, by simp [h2, cntM], h3.cons l2 l3, fun ρ' j hj => ?_⟩
          simp only [svM, denL, h4 ρ' _ hj.tail, SV.den, hj.head, l3, l4]
        · cases hp
    | x ps =>
      simp only at hp
      cases v
      case agg qs =>
        simp only [slsV] at hp
        cases hs : parseP ps qs ((slsL qs).map (vecAt m) ++ ((slsL ss).map (vecAt m) ++ rest)) with
        | none => rw [hs] at hp; cases hp
        | some x =>
          obtain ⟨pv, vs1⟩ := x
          rw [hs] at hp
          simp only at hp
          have hwv := hw (.agg qs) (by simp)
          simp only [wf] at hwv
          obtain ⟨rfl, l1, val, l2, l3, l4⟩ := parseP_spec h (atomsL_iff.1 hwv) (fun i hi => hP i (by simp [slsL, slsV, hi])) hs
          split at hp
          · rename_i r vs2 hr
            cases hp
            obtain ⟨rfl, h1, vals, h2, h3, h4⟩ := parseM_spec h (fun q hq => hw q (by simp [hq])) (fun i hi => hP i (by simp [slsL, hi])) hr
            refine ⟨rfl, ⟨l1, h1⟩, val ++ vals, by simp [h2, l2, cntM, Nat.add_comm], l3.append h3, fun ρ' j hj => ?_⟩
            have hr := hj.right
            rw [l2] at hr
            simp only [svM, denL, h4 ρ' _ hr, SV.den, l4 ρ' j hj.left]
          · cases hp
      all_goals (simp only at hp; cases hp)
end Go.Sx

/- The symbolic layer: contracts over slices, by a function's run. -/
namespace Go.Sx
open Go.RowKit (Below)

def unTup (ks : List MK) (u : SV) : Option (List SV) := match ks with
  | [_] => some [u]
  | _ => match u with
    | .tup us => some us
    | _ => none

def esP : List PK → List TypeId
  | [] => []
  | .i _ _ :: ks => esP ks
  | .s e _ _ :: ks => e :: esP ks
def esM : List MK → List TypeId
  | [] => []
  | .p _ :: ks => esM ks
  | .s e _ _ :: ks => e :: esM ks
  | .x ps :: ks => esP ps ++ esM ks

/-- The results hold at most one slice, of the call's own. -/
def ownB (es : List TypeId) (is : List Nat) (m : Mem) : Bool := match is with
  | [] => true
  | [i] => match look m i with
    | some (.vec true e _ _ _ _) => match es with
      | [e'] => Nat.beq e e'
      | _ => false
    | _ => false
  | _ => false

def outM (ks : List MK) (u : SV) (m : Mem) : T (List MV) :=
  match unTup ks u with
  | some us => match parseM ks us ((slsL us).map (vecAt m)) with
    | some (ys, []) => match ownB (esM ks) (slsL us) m with
      | true => .ret ys
      | false => .fail "result: not of its own"
    | _ => .fail "result: kinds"
  | none => .fail "result: no tuple"

/-- Whether each of the slices that came in is nil. -/
def nzM (zs : Nat → Bool) : Nat → Mem
  | 0 => []
  | n + 1 => (nzK n, .nz n (zs n)) :: nzM zs n

theorem nzM_look {zs : Nat → Bool} : ∀ {n i : Nat} {b : Blk}, look (nzM zs n) i = some b → ∃ j, b = .nz j (zs j) ∧ j < n
  | 0, i, b, h => by cases h
  | n + 1, i, b, h => by
    simp only [nzM, look] at h
    split at h
    · cases h; exact ⟨n, rfl, by omega⟩
    · obtain ⟨j, h1, h2⟩ := nzM_look h
      exact ⟨j, h1, by omega⟩

def runM (cx : Cx) (bl : Blocks) (fuel : Nat) (fn : Func) (c : Code) (ks : List MK) (xs : List MV) (zs : Nat → Bool) (ks' : List MK) (gm : Mem) : T (List MV) :=
  (runFn cx (drawS cx) bl fuel c fn.ntmps fn.results.toList (svM ks xs 0) (numb 0 (blM false ks xs) ++ (nzM zs (cntM ks) ++ gm)) (cntM ks)).bind fun r => outM ks' r.1 r.2.mem

def outSV (ks : List MK) (ys : List MV) (nx : Nat) : SV := match ks with
  | [_] => (svM ks ys nx).headD (.raw undef)
  | _ => .tup (svM ks ys nx)

def ctM (ks : List MK) (pre : List MV → Prop) (ks' : List MK) (res : List MV → List MV) (args : List SV) (vs : List (Option VI)) (nx : Nat) : T (SV × Option Blk) :=
  match parseM ks args vs with
  | some (xs, []) => .need (pre xs) (.ret (outSV ks' (res xs) nx, (blM true ks' (res xs)).head?))
  | _ => .fail "a contract's arguments"

/-- A contract over slices. -/
def FnmS (P : Program) (G : World → Prop) (g : FuncId) (spec : List SV → List (Option VI) → Nat → T (SV × Option Blk)) : Prop := (∀ args w, (callFunc g args).run P w = .ok (.enter g args) w) ∧
  ∀ Γ : Gam, Γ.G = G → Γ.G Γ.w0 → GlobOk Γ → ∀ args v ob ρ S a w, Rel Γ ρ S a w → (∀ x ∈ args, wf x) → idsL S.has args → look S.mem S.next = none → S.next < 1000000 → T.Reach (spec args ((slsL args).map (vecAt S.mem)) S.next) (v, ob) →
    Calls P g (denL ρ args).toArray w (fun e w' => ∃ u, e = .returned u ∧ ∀ dst n', Γ.n0 ≤ n' → ∃ ρ', Rel Γ ρ' { (Eff.on S dst ⟨v, oneE S.next ob⟩) with next := n' } (a.put dst u) w')

theorem svP_atoms : ∀ {ks : List PK} {us : List PV} (j : Nat), fitP ks us → ∀ v ∈ svP ks us j, isAtom v
  | [], [], j, _, v, hv => by cases hv
  | [], _ :: _, j, h, v, hv => h.elim
  | .i k n :: ks, [], j, h, v, hv => h.elim
  | .s e k st :: ks, [], j, h, v, hv => h.elim
  | .i k n :: ks, .s _ _ :: us, j, h, v, hv => h.elim
  | .s e k st :: ks, .l _ :: us, j, h, v, hv => h.elim
  | .i k n :: ks, .l xs :: us, j, h, v, hv => by
    simp only [svP, List.mem_cons] at hv
    rcases hv with rfl | hv
    · simp only [isAtom]; exact h.1
    · exact svP_atoms j h.2 v hv
  | .s e k st :: ks, .s n l :: us, j, h, v, hv => by
    simp only [svP, List.mem_cons] at hv
    rcases hv with rfl | hv
    · simp only [isAtom]
    · exact svP_atoms (j + 1) h.2 v hv

theorem svP_ids {p : Nat → Prop} : ∀ {ks : List PK} {us : List PV} (j : Nat), (∀ t, t < cntP ks → p (j + t)) → idsL p (svP ks us j)
  | [], _, j, _ => by simp [svP, idsL]
  | .i k n :: ks, [], j, _ => by simp [svP, idsL]
  | .s e k st :: ks, [], j, _ => by simp [svP, idsL]
  | .i k n :: ks, .s _ _ :: us, j, _ => by simp [svP, idsL]
  | .s e k st :: ks, .l _ :: us, j, _ => by simp [svP, idsL]
  | .i k n :: ks, .l xs :: us, j, h => by
    simp only [svP, idsL, SV.ids, true_and]
    exact svP_ids j h
  | .s e k st :: ks, .s n l :: us, j, h => by
    simp only [svP, idsL, SV.ids]
    refine ⟨by simpa using h 0 (by simp [cntP]), svP_ids (j + 1) fun t ht => ?_⟩
    have := h (t + 1) (by simp [cntP]; exact ht)
    rw [show j + 1 + t = j + (t + 1) from by omega]; exact this

theorem svM_wf : ∀ {ks : List MK} {us : List MV} (j : Nat), fitM ks us → ∀ v ∈ svM ks us j, wf v
  | [], _, j, _, v, hv => by simp [svM] at hv
  | k :: ks, [], j, h, v, hv => by cases k <;> simp [svM] at hv
  | k :: ks, u :: us, j, h, v, hv => by
    cases k <;> cases u <;> simp only [fitM] at h <;> try exact h.elim
    · simp only [svM, List.mem_cons] at hv
      rcases hv with rfl | hv
      · exact (can1_closed h.1).wf
      · exact svM_wf j h.2 v hv
    · simp only [svM, List.mem_cons] at hv
      rcases hv with rfl | hv
      · simp only [wf]
      · exact svM_wf (j + 1) h.2 v hv
    · simp only [svM, List.mem_cons] at hv
      rcases hv with rfl | hv
      · simp only [wf]; exact atomsL_iff.2 (svP_atoms j h.1)
      · exact svM_wf _ h.2 v hv

theorem svM_ids {p : Nat → Prop} : ∀ {ks : List MK} {us : List MV} (j : Nat), (∀ t, t < cntM ks → p (j + t)) → idsL p (svM ks us j)
  | [], _, j, _ => by simp [svM, idsL]
  | k :: ks, [], j, _ => by cases k <;> simp [svM, idsL]
  | k :: ks, u :: us, j, h => by
    cases k <;> cases u <;> simp only [svM, idsL] <;> try trivial
    · exact ⟨can1_ids _ _ _, svM_ids j h⟩
    · refine ⟨by simp only [SV.ids]; simpa using h 0 (by simp [cntM]), svM_ids (j + 1) fun t ht => ?_⟩
      have := h (t + 1) (by simp [cntM]; exact ht)
      rw [show j + 1 + t = j + (t + 1) from by omega]; exact this
    · rename_i ps us'
      refine ⟨by simp only [SV.ids]; exact svP_ids j fun t ht => h t (by simp [cntM]; omega), svM_ids _ fun t ht => ?_⟩
      have := h (cntP ps + t) (by simp [cntM]; omega)
      rw [Nat.add_assoc]; exact this

theorem blP_length {own : Bool} : ∀ {ks : List PK} {us : List PV}, fitP ks us → (blP own ks us).length = cntP ks
  | [], [], _ => rfl
  | [], _ :: _, h => h.elim
  | .i k n :: ks, [], h => h.elim
  | .s e k st :: ks, [], h => h.elim
  | .i k n :: ks, .s _ _ :: us, h => h.elim
  | .s e k st :: ks, .l _ :: us, h => h.elim
  | .i k n :: ks, .l xs :: us, h => by simp only [blP, cntP]; exact blP_length h.2
  | .s e k st :: ks, .s n l :: us, h => by simp only [blP, cntP, List.length_cons]; rw [blP_length h.2]
theorem blM_length {own : Bool} : ∀ {ks : List MK} {us : List MV}, fitM ks us → (blM own ks us).length = cntM ks
  | [], [], _ => rfl
  | [], _ :: _, h => h.elim
  | k :: ks, [], h => by cases k <;> exact h.elim
  | k :: ks, u :: us, h => by
    cases k <;> cases u <;> simp only [fitM] at h <;> try exact h.elim
    · simp only [blM, cntM]; exact blM_length h.2
    · simp only [blM, cntM, List.length_cons]; rw [blM_length h.2]
    · simp only [blM, cntM, List.length_append]; rw [blM_length h.2, blP_length h.1]; omega

def blkE : Blk → TypeId
  | .vec _ e _ _ _ _ => e
  | _ => 0
theorem blP_es {own : Bool} : ∀ {ks : List PK} {us : List PV}, fitP ks us → (blP own ks us).map blkE = esP ks
  | [], [], _ => rfl
  | [], _ :: _, h => h.elim
  | .i k n :: ks, [], h => h.elim
  | .s e k st :: ks, [], h => h.elim
  | .i k n :: ks, .s _ _ :: us, h => h.elim
  | .s e k st :: ks, .l _ :: us, h => h.elim
  | .i k n :: ks, .l xs :: us, h => by simp only [blP, esP]; exact blP_es h.2
  | .s e k st :: ks, .s n l :: us, h => by simp only [blP, esP, List.map_cons, blkE]; rw [blP_es h.2]
theorem blM_es {own : Bool} : ∀ {ks : List MK} {us : List MV}, fitM ks us → (blM own ks us).map blkE = esM ks
  | [], [], _ => rfl
  | [], _ :: _, h => h.elim
  | k :: ks, [], h => by cases k <;> exact h.elim
  | k :: ks, u :: us, h => by
    cases k <;> cases u <;> simp only [fitM] at h <;> try exact h.elim
    · simp only [blM, esM]; exact blM_es h.2
    · simp only [blM, esM, List.map_cons, blkE]; rw [blM_es h.2]
    · simp only [blM, esM, List.map_append]; rw [blM_es h.2, blP_es h.1]

theorem svM_length : ∀ {ks : List MK} {us : List MV} (j : Nat), fitM ks us → (svM ks us j).length = ks.length
  | [], [], j, _ => rfl
  | [], _ :: _, j, h => h.elim
  | k :: ks, [], j, h => by cases k <;> exact h.elim
  | k :: ks, u :: us, j, h => by
    cases k <;> cases u <;> simp only [fitM] at h <;> try exact h.elim
    all_goals (simp only [svM, List.length_cons]; rw [svM_length _ h.2])

theorem VecOwn.mono {w : World} {base base' : Nat} (hb : base' ≤ base) {e : TypeId} {st : Nat} {v : Value} {n : Nat} {xs : List Value} (h : VecOwn w base e st v n xs) : VecOwn w base' e st v n xs := by
  rcases h with h | ⟨g, c, hc, hv, ho⟩
  · exact .inl h
  · refine .inr ⟨g, c, hc, hv, ho.1, ?_⟩
    rcases ho.2 with h | ⟨g', cap, cur, h1, h2, h3⟩
    · exact .inl h
    · exact .inr ⟨g', cap, cur, h1, Nat.le_trans hb h2, h3⟩

theorem VecOwm.mono {w : World} {base base' : Nat} (hb : base' ≤ base) {e : TypeId} {st : Nat} {v : Value} {n : Nat} {xs : List Value} (h : VecOwm w base e st v n xs) : VecOwm w base' e st v n xs := by
  rcases h with h | ⟨he, g, c, hc, hv, h1, h2⟩
  · exact .inl (h.mono hb)
  · exact .inr ⟨he, g, c, hc, hv, Nat.le_trans hb h1, h2⟩

/-- A function's entry. -/
theorem entryM_rel {G : World → Prop} {gm : Mem} (hgm : GlobIs G gm) {ks : List MK} {xs : List MV} (hfit : fitM ks xs) {w : World} {vals : List Value} (hcame : CameB false (fun k st val n l => VecRead w w.heap.size st val n (l.map (Value.int k))) (blM false ks xs) vals) {zm : Mem} (hz : ∀ i b, look zm i = some b → ∃ j v, b = .nz j v ∧ j < cntM ks ∧ NilIs (vals.getD j undef) v) (n : Nat) (junk : Nat → Value) (hw : G w) :
    let ρ0 : Env := ⟨fun i => i - 1000000, fun _ => 0, fun _ => 0, junk, fun i => vals.getD i undef⟩
    Rel ⟨w, ρ0, 0, G, fun _ _ => False, 0⟩ ρ0 { tmps := entryTmps (svM ks xs 0) n, mem := numb 0 (blM false ks xs) ++ (zm ++ gm), next := cntM ks } { tmps := (denL ρ0 (entryTmps (svM ks xs 0) n)).toArray, defers := [] } w := by
  intro ρ0
  have hhas : ∀ t, t < cntM ks → (look (numb 0 (blM false ks xs) ++ (zm ++ gm)) t).isSome = true := fun t ht => by
    have hlt : t < (blM false ks xs).length := by rw [blM_length hfit]; exact ht
    have := look_numb_some (blM false ks xs) 0 t _ (List.getElem?_eq_getElem hlt)
    rw [Nat.zero_add] at this
    simp only [look_append, this, Option.isSome_some]
  have hblk : ∀ i b, look (numb 0 (blM false ks xs) ++ (zm ++ gm)) i = some b → (∃ e k st m l, b = .vec false e k st m l ∧ VecRead w w.heap.size st (ρ0.vec i) m (l.map (Value.int k))) ∨ (∃ j v, b = .nz j v ∧ j < cntM ks ∧ NilIs (ρ0.vec j) v) ∨ look gm i = some b := by
    intro i b h
    rw [look_append] at h
    split at h
    · rename_i c hc
      cases h
      obtain ⟨t, rfl, hb⟩ := look_numb _ _ _ _ hc
      left
      have hlt : t < vals.length := by
        rw [hcame.len]
        rcases Nat.lt_or_ge t (blM false ks xs).length with hl | hl
        · exact hl
        · rw [List.getElem?_eq_none hl] at hb; cases hb
      obtain ⟨e, k, st, m, l, h1, h2, -⟩ := hcame.read t _ (List.getElem?_eq_getElem hlt)
      rw [hb] at h1
      cases h1
      refine ⟨e, k, st, m, l, rfl, ?_⟩
      have : ρ0.vec (0 + t) = vals[t] := by simp [ρ0, List.getD, hlt]
      rw [this]; exact h2
    · right
      rw [look_append] at h
      split at h
      · rename_i c hc
        cases h
        exact .inl (hz i _ hc)
      · exact .inr h
  refine ⟨rfl, .none (fun _ _ h => h.elim) (Nat.zero_le _), ?_, ?_, Below.refl _ _, ⟨fun _ _ => rfl, fun _ _ => rfl, fun _ _ => rfl, fun _ _ => rfl⟩, Nat.zero_le _, ?_, ?_⟩
  · intro i b hl
    rcases hblk i b hl with ⟨e, k, st, m, l, rfl, hr⟩ | ⟨j, v, rfl, hj, hv⟩ | hl
    · exact ⟨⟨trivial, fun j v hj => (by cases hj), fun hh => (by cases hh), fun _ hh => (by cases hh), hr⟩, trivial⟩
    · exact ⟨⟨trivial, fun j v hj => (by cases hj), fun hh => (by cases hh), fun _ hh => (by cases hh), hv⟩, hhas j hj⟩
    · obtain ⟨h1, h2, h3, h4, h4'⟩ := hgm.atoms i b hl
      obtain ⟨h5, h6⟩ := hgm.cell w hw i b hl
      exact ⟨⟨h1, fun j v hj => by simpa [ρ0] using h6 _ j v hj, fun ho => (by rw [h2] at ho; cases ho), fun _ _ => h5, by cases b <;> first | trivial | cases h4'⟩, h3 _⟩
  · intro i j b c hi _ _ g hp
    rcases hblk i b hi with ⟨e, k, st, m, l, rfl, hr⟩ | ⟨j', v, rfl, -, -⟩ | hi
    · cases hp
    · cases hp
    · have h2 := (hgm.atoms i b hi).2.1
      have h5 := (hgm.atoms i b hi).2.2.2.2
      cases b <;> first | (simp only [Blk.own] at h2; subst h2; cases hp) | cases h5
  · intro v hv
    simp only [entryTmps, List.mem_append, List.mem_replicate] at hv
    rcases hv with hv | ⟨-, rfl⟩
    · exact svM_wf 0 hfit v hv
    · simp only [wf]
  · simp only [entryTmps]
    refine idsL_append.2 ⟨svM_ids 0 fun t ht => ?_, idsL_iff.2 fun v hv => ?_⟩
    · rw [Nat.zero_add]; exact hhas t ht
    · rw [List.mem_replicate] at hv
      rw [hv.2]; simp only [SV.ids]

theorem outSV_den {ks : List MK} {ys : List MV} {nx : Nat} (hfit : fitM ks ys) {u : SV} {us : List SV} (hus : unTup ks u = some us) {ρ ρ' : Env} (hu : denL ρ (svM ks ys nx) = denL ρ' us) : (outSV ks ys nx).den ρ = u.den ρ' := by
  unfold outSV
  unfold unTup at hus
  split
  · rename_i k
    have hl := svM_length nx hfit
    simp only [Option.some.injEq] at hus
    subst hus
    match h : svM [k] ys nx, hl with
    | [v], _ =>
      rw [h] at hu
      simpa [denL] using hu
  · rename_i hne
    split at hus
    · rename_i k; exact absurd rfl (hne k)
    · split at hus
      · cases hus
        simp only [SV.den, hu]
      · cases hus

theorem unTup_wf {ks : List MK} {u : SV} {us : List SV} (hus : unTup ks u = some us) (hw : wf u) : ∀ p ∈ us, wf p := by
  unfold unTup at hus
  split at hus
  · cases hus; intro p hp; simp at hp; subst hp; exact hw
  · split at hus
    · cases hus; simp only [wf] at hw; exact wfL_iff.1 hw
    · cases hus

theorem outSV_wf {ks : List MK} {ys : List MV} {nx : Nat} (hfit : fitM ks ys) : wf (outSV ks ys nx) := by
  have h := svM_wf nx hfit
  unfold outSV
  split
  · rename_i k
    have hl := svM_length nx hfit
    match hm : svM [k] ys nx, hl with
    | [v], _ => rw [hm] at h; exact h v (by simp)
  · simp only [wf]; exact wfL_iff.2 h

theorem outSV_ids {ks : List MK} {ys : List MV} {nx : Nat} {p : Nat → Prop} (h : ∀ t, t < cntM ks → p (nx + t)) : (outSV ks ys nx).ids p := by
  have hi := svM_ids (us := ys) nx h
  clear h
  unfold outSV
  split
  · rename_i k
    match hm : svM [k] ys nx with
    | [] => simp only [List.headD_nil, SV.ids]
    | v :: l => rw [hm] at hi; exact hi.1
  · simp only [SV.ids]; exact hi

/-- **A contract over slices, by the function's run.** -/
theorem fnm_run {P : Program} {G : World → Prop} {cx : Cx} (hc : CxOk P G cx) {gm : Mem} (hgm : GlobIs G gm) {g : FuncId} {fn : Func} {c : Code} (hf : P.funcs[g]? = some fn) (hb : fn.body = some c) (hent : ∀ args w, (callFunc g args).run P w = .ok (.enter g args) w)
    {fuel : Nat} {ks : List MK} {pre : List MV → Prop} {ks' : List MK} {res : List MV → List MV} (hes : cntM ks' ≤ 1)
    (h : ∀ xs (zs : Nat → Bool), fitM ks xs → pre xs → (∀ (t : Nat) (e : TypeId) (k : IntKind) (st n : Nat) (l : List Int), (blM false ks xs)[t]? = some (Blk.vec false e k st n l) → zs t = true → n * st = 0 ∧ l = []) → ∃ bl : Blocks, (∀ Γ : Gam, Γ.G = G → Γ.G Γ.w0 → GlobOk Γ → Γ.n0 = 0 → BlocksIn P Γ bl c) ∧ Gd (runM cx bl fuel fn c ks xs zs ks' gm) fun r => r = res xs) : FnmS P G g (ctM ks pre ks' res) := by
  refine ⟨hent, fun Γ hG h0 hg args v ob ρ S a w hrel hwf hids hnone hlt hr => ?_⟩
  unfold ctM at hr
  split at hr
  · rename_i xs hparse
    rw [T.reach_need, T.reach_ret] at hr
    obtain ⟨hp, hvo⟩ := hr
    obtain ⟨-, hfit, vals, hlen, hcame, hden⟩ := parseM_spec (own := false) (parseS_spec hrel) (rest := []) hwf (fun _ _ => trivial) (by simpa using hparse)
    let zs : Nat → Bool := fun t => match vals.getD t undef with
      | .slice ao _ _ => ao.isNone
      | _ => true
    have hzv : ∀ t, t < vals.length → NilIs (vals.getD t undef) (zs t) := fun t ht => by
      obtain ⟨e, k, st, n, l, h1, ⟨-, a, c, h3, -⟩, -⟩ := hcame.read t _ (List.getElem?_eq_getElem ht)
      have hv : vals.getD t undef = .slice a n c := by simp only [List.getD, List.getElem?_eq_getElem ht, Option.getD_some]; exact h3
      exact ⟨a, n, c, hv, by simp only [zs, hv]⟩
    obtain ⟨bl, hbl, hgd⟩ := h xs zs hfit hp (fun t e k st n l hb hz => by
      have hlt : t < vals.length := by
        rw [hcame.len]
        rcases Nat.lt_or_ge t (blM false ks xs).length with hl | hl
        · exact hl
        · rw [List.getElem?_eq_none hl] at hb; cases hb
      obtain ⟨e', k', st', n', l', h1, ⟨hl', a, c, h3, h4, h5⟩, -⟩ := hcame.read t _ (List.getElem?_eq_getElem hlt)
      rw [hb] at h1
      simp only [Option.some.injEq, Blk.vec.injEq] at h1
      obtain ⟨-, rfl, rfl, rfl, rfl, rfl⟩ := h1
      have hv : vals.getD t undef = .slice a n c := by simp only [List.getD, List.getElem?_eq_getElem hlt, Option.getD_some]; exact h3
      simp only [zs, hv] at hz
      have hnil : l.map (Value.int k) = [] := by
        rcases h5 with h5 | ⟨g, o, h6, -⟩
        · exact h5
        · rw [h6] at hz; cases hz
      have hl0 : l = [] := by simpa using hnil
      subst hl0
      exact ⟨by simpa using hl'.symm, rfl⟩)
    generalize zs = zs' at *
    have hGw : G w := by rw [← hG]; exact hrel.G (hG ▸ hc) h0
    have hrel0 := entryM_rel hgm hfit hcame (zm := nzM zs' (cntM ks)) (fun i b hl => by
      obtain ⟨j, rfl, hj⟩ := nzM_look hl
      exact ⟨j, _, rfl, hj, hzv j (by rw [hlen]; exact hj)⟩) fn.ntmps ρ.junk hGw
    generalize hρ0 : (⟨fun i => i - 1000000, fun _ => 0, fun _ => 0, ρ.junk, fun i => vals.getD i undef⟩ : Env) = ρ0 at hrel0
    have hat : At ρ0 0 vals := fun t v hv => by rw [← hρ0]; simp [List.getD, hv]
    have hargs : denL ρ0 (svM ks xs 0) = denL ρ args := hden ρ0 0 hat
    have hg' : GlobOk ⟨w, ρ0, 0, G, fun _ _ => False, 0⟩ := fun g => ⟨by simp [gid, ← hρ0], by simp [← hρ0]⟩
    obtain ⟨ys, hreach, hys⟩ := T.reach_of_good hgd.good
    subst hys
    unfold runM at hreach
    rw [T.reach_bind] at hreach
    obtain ⟨⟨u, S'⟩, hr1, hr2⟩ := hreach
    have hcall := runFn_sound (Γ := ⟨w, ρ0, 0, G, fun _ _ => False, 0⟩) hc hg' hGw (drawS_sound hc hg' hGw) hf hb (hbl _ rfl hGw hg' rfl) hr1 hrel0
    rw [hargs] at hcall
    refine hcall.mono fun e w' ⟨ρ', a', he, hr', hwu⟩ => ⟨_, he, fun dst n' hn' => ?_⟩
    simp only at hr2
    unfold outM at hr2
    split at hr2
    · rename_i us hus
      split at hr2
      · rename_i zs hz
        split at hr2
        · rename_i hown
          rw [T.reach_ret] at hr2
          subst hr2
          obtain ⟨-, hfit', vals', hlen', hcame', hden'⟩ := parseM_spec (own := true) (P := fun i => i ∈ slsL us) (Q := fun k st val n l => VecOwm w' w.heap.size ((esM ks').headD 0) st val n (l.map (Value.int k))) (ρ := ρ') (m := S'.mem) (rest := [])
            (fun {k st v rest n l vs'} hP hps => by
              obtain ⟨r1, r2, val, -, r4, r5⟩ := parseS_spec hr' (fun _ _ => trivial) hps
              refine ⟨r1, r2, val, ?_, r4, r5⟩
              unfold parseS at hps
              split at hps
              · rename_i i
                simp only [slsV, List.map_cons, List.map_nil, List.singleton_append] at hps
                have hi := hP i (by simp [slsV])
                have hone : slsL us = [i] := by
                  unfold ownB at hown
                  split at hown
                  · rename_i hs; rw [hs] at hi; cases hi
                  · rename_i i' hs; rw [hs] at hi; simp at hi; rw [hs, hi]
                  · cases hown
                rw [hone] at hown
                simp only [ownB] at hown
                split at hown
                · rename_i e' k' st' m' l' hl
                  split at hown
                  · rename_i e'' hes'
                    have hee := Nat.eq_of_beq_eq_true hown
                    subst hee
                    have hV : vecAt S'.mem i = some ⟨i, true, e', k', st', 0, m', l', true⟩ := by unfold vecAt; rw [hl]
                    have hv : VecOwm w' w.heap.size e' st' (ρ'.vec i) m' (l'.map (Value.int k')) := (hr'.mem i _ hl).1.vec
                    rw [hV] at hps
                    simp only at hps
                    split at hps
                    · rename_i h1 h2
                      have h1 := of_decide_eq_true h1
                      have h2 := Nat.eq_of_beq_eq_true h2
                      subst h1; subst h2
                      cases hps
                      rw [hes']
                      have : val = ρ'.vec i := by
                        rw [← r5]
                        simp only [SV.den]
                        rcases hv with (⟨ao, hz, -⟩ | ⟨g, c, -, hz, -⟩) | ⟨-, g, c, -, hz, -⟩ <;> rw [hz] <;> rfl
                      rw [this]
                      exact hv
                    · cases hps
                  · cases hown
                · cases hown
              · rename_i ao
                simp only [Option.some.injEq, Prod.mk.injEq] at hps
                obtain ⟨rfl, rfl, -⟩ := hps
                exact .inl (.inl ⟨ao, by rw [← r5]; rfl, rfl, rfl⟩)
              · cases hps) (unTup_wf hus hwu) (fun i hi => hi) (by simpa using hz)
          simp only [Prod.mk.injEq] at hvo
          obtain ⟨rfl, rfl⟩ := hvo
          have hbl' := blM_length (own := true) hfit'
          match hbs : blM true ks' (res xs), hbl' with
          | [], hc0 =>
            have hc0 : cntM ks' = 0 := by simpa using hc0.symm
            have hv0 : vals' = [] := List.eq_nil_of_length_eq_zero (by rw [hlen', hc0])
            subst hv0
            have hd := hden' ρ S.next (fun t v hv => by simp at hv)
            have hval := outSV_den hfit' hus hd
            have hput := (hrel.onto hr'.below).put dst (v := outSV ks' (res xs) S.next) (outSV_wf hfit') (outSV_ids fun t ht => by omega)
            rw [hval] at hput
            refine ⟨ρ, ?_⟩
            simp only [List.head?_nil, oneE, Eff.on, memE]
            exact hput.next hn'
          | [b], hc1 =>
            have hc1 : cntM ks' = 1 := by simpa using hc1.symm
            obtain ⟨val, rfl⟩ : ∃ val, vals' = [val] := by
              match vals', hlen'.trans hc1 with
              | [val], _ => exact ⟨val, rfl⟩
            obtain ⟨e1, k1, st1, n1, l1, q1, q2, q3⟩ := hcame'.read 0 val rfl
            rw [hbs] at q1
            simp only [List.getElem?_cons_zero, Option.some.injEq] at q1
            subst q1
            have hee : esM ks' = [e1] := by rw [← blM_es (own := true) hfit', hbs]; rfl
            rw [hee] at q2
            simp only [List.headD_cons] at q2
            have hni : ¬ Γ.pinned S.next := by
              rintro (hp | hp)
              · have := hrel.nx; omega
              · omega
            have ev : (ρ.set S.next 0 0 0 val).vec S.next = val := if_pos rfl
            have hch := hrel.change (i := S.next) (o := none) (b := .vec true e1 k1 st1 n1 l1) (blk := 0) (off := 0) (cap := 0) (vec := val) (row := none) (grownBy_of_below hr'.below none) (fun g hg => by cases hg) (fun o' ho => by cases ho) hnone hni
              ⟨trivial, fun j u hj => (by cases hj), fun hh => (by cases hh), fun _ hh => (by cases hh), by
                show VecOwm w' Γ.w0.heap.size e1 st1 ((ρ.set S.next 0 0 0 val).vec S.next) n1 _
                rw [ev]; exact q2.mono hrel.below.size⟩ trivial
              (fun g hg => by
                simp only [phys, ev] at hg
                exact .inl (VecOwm.phys_lt (w := w') (base := w.heap.size) q2 hg).1) S.next hrel.nx
            have hd := hden' (ρ.set S.next 0 0 0 val) S.next (fun t v hv => by
              cases t with
              | zero => simp at hv; subst hv; exact ev
              | succ t => simp at hv)
            have hval := outSV_den hfit' hus hd
            have hput := hch.put dst (v := outSV ks' (res xs) S.next) (outSV_wf hfit') (outSV_ids fun t ht => by
              have : t = 0 := by omega
              subst this
              simp [St.has, look_upd])
            rw [hval] at hput
            refine ⟨ρ.set S.next 0 0 0 val, ?_⟩
            simp only [List.head?_cons, oneE, Eff.on, memE]
            exact hput.next hn'
          | b :: b' :: bs, hc2 => simp at hc2; omega
        · exact (T.reach_fail hr2).elim
      · exact (T.reach_fail hr2).elim
    · exact (T.reach_fail hr2).elim
  · exact (T.reach_fail hr).elim
end Go.Sx

/- The symbolic layer: from a law's contract to its row. -/
namespace Go.Sx
open Go.RowKit (Below Below.trod Below.frame)
open Go.ChangeShapes

/-- A contract's kind fits a type. -/
def isCells (P : Program) (t : TypeId) : Bool := match P.underlying t with
  | some (.struct _) => true
  | some (.array _ _) => true
  | _ => false
def kindIs (P : Program) (k : IntKind) (u : TypeId) : Bool := match P.underlying u with
  | some (.int k') => decide (k' = k)
  | _ => false
def kindsAre (P : Program) : List IntKind → List TypeId → Bool
  | [], [] => true
  | k :: ks, u :: us => kindIs P k u && kindsAre P ks us
  | _, _ => false
def flatK : List (IntKind × Nat) → List IntKind
  | [] => []
  | (k, n) :: l => List.replicate n k ++ flatK l
def akOk (P : Program) (t : TypeId) : AK → Bool
  | .num k => kindIs P k t
  | .bool => match P.underlying t with
    | some .bool => true
    | _ => false
  | .ints k n => isCells P t && Nat.beq (P.cellsOf t) n && match P.cellTypes P.depth t with
    | some ts => kindsAre P (List.replicate n k) ts
    | none => false
  | .agg ks => isCells P t && Nat.beq (P.cellsOf t) (flatK ks).length && match P.cellTypes P.depth t with
    | some ts => kindsAre P (flatK ks) ts
    | none => false

def hasL (k : IntKind) (l : List Int) : Prop := ∀ x ∈ l, k.has x
def hasP : List (IntKind × Nat) → List (List Int) → Prop
  | (k, _) :: ks, l :: ls => hasL k l ∧ hasP ks ls
  | _, _ => True
def has1 : AK → AV → Prop
  | .num k, .n x => k.has x
  | .ints k _, .l xs => hasL k xs
  | .agg ks, .a ls => hasP ks ls
  | _, _ => True
def hasA : List AK → List AV → Prop
  | k :: ks, a :: xs => has1 k a ∧ hasA ks xs
  | _, _ => True

section
variable {P : Program} {w : World} {r : Reach} {base : Nat}

theorem kindIs_und {k : IntKind} {u : TypeId} (h : kindIs P k u = true) : P.underlying u = some (.int k) := by
  unfold kindIs at h
  split at h
  · rename_i k' hu; have := of_decide_eq_true h; subst this; exact hu
  · cases h

theorem cell_int {k : IntKind} {u : TypeId} {v : Value} (h : kindIs P k u = true) (hok : Cell.okWide P w r base u v) : ∃ x, v = .int k x ∧ k.has x := by
  have hu := kindIs_und h
  unfold Cell.okWide at hok
  rw [hu] at hok
  cases v <;> simp only [Cell.ok, hu] at hok <;> try exact hok.elim
  obtain ⟨rfl, h2⟩ := hok
  exact ⟨_, rfl, h2⟩

theorem cells_kinds : ∀ (kl : List IntKind) (ts : List TypeId) (cs : List Value), kindsAre P kl ts = true → cs.length = kl.length → (∀ (i : Nat) (v : Value), cs[i]? = some v → ∃ u, ts[i]? = some u ∧ Cell.okWide P w r base u v) →
    ∃ l : List Int, l.length = kl.length ∧ cs = (kl.zip l).map (fun p => Value.int p.1 p.2) ∧ ∀ p ∈ kl.zip l, p.1.has p.2
  | [], ts, cs, _, hl, _ => ⟨[], rfl, by simpa using hl, fun p hp => by cases hp⟩
  | k :: kl, [], cs, h, _, _ => by simp [kindsAre] at h
  | k :: kl, u :: ts, [], h, hl, _ => by simp at hl
  | k :: kl, u :: ts, c :: cs, h, hl, hc => by
    simp only [kindsAre, Bool.and_eq_true] at h
    obtain ⟨u', hu, hok⟩ := hc 0 c rfl
    simp at hu; subst hu
    obtain ⟨x, rfl, hx⟩ := cell_int h.1 hok
    obtain ⟨l, h1, h2, h3⟩ := cells_kinds kl ts cs h.2 (by simpa using hl) (fun i v hi => by
      have := hc (i + 1) v (by simpa using hi)
      simpa using this)
    refine ⟨x :: l, by simp [h1], by simp [h2], fun p hp => ?_⟩
    simp only [List.zip_cons_cons, List.mem_cons] at hp
    rcases hp with rfl | hp
    · exact hx
    · exact h3 p hp

theorem zip_replicate (n : Nat) (k : IntKind) (l : List Int) (h : l.length = n) : (List.replicate n k).zip l = l.map fun x => (k, x) := by
  induction l generalizing n with
  | nil => simp
  | cons x l ih =>
    obtain ⟨m, rfl⟩ : ∃ m, n = m + 1 := ⟨n - 1, by simp at h; omega⟩
    simp [List.replicate_succ, ih m (by simpa using h)]

theorem flat_parts (ρ : Env) : ∀ (ks : List (IntKind × Nat)) (l : List Int), l.length = (flatK ks).length → (∀ p ∈ (flatK ks).zip l, p.1.has p.2) →
    ∃ ls, lens ks ls ∧ hasP ks ls ∧ ((flatK ks).zip l).map (fun p => Value.int p.1 p.2) = cellsL ρ (partsOf ks ls)
  | [], l, _, _ => ⟨[], trivial, trivial, by simp [flatK, partsOf, cellsL]⟩
  | (k, n) :: ks, l, hl, hh => by
    simp only [flatK, List.length_append, List.length_replicate] at hl
    have hsplit : l = l.take n ++ l.drop n := (List.take_append_drop n l).symm
    have htl : (l.take n).length = n := by rw [List.length_take]; omega
    have hz : (flatK ((k, n) :: ks)).zip l = (l.take n).map (fun x => (k, x)) ++ (flatK ks).zip (l.drop n) := by
      conv => lhs; rw [hsplit]
      simp only [flatK]
      rw [List.zip_append (by simp [htl]), zip_replicate n k _ htl]
    rw [hz] at hh
    obtain ⟨ls, h1, h2, h3⟩ := flat_parts ρ ks (l.drop n) (by rw [List.length_drop]; omega) (fun p hp => hh p (by simp [hp]))
    refine ⟨l.take n :: ls, ⟨htl, h1⟩, ⟨fun x hx => ?_, h2⟩, ?_⟩
    · exact hh (k, x) (by simp only [List.mem_append, List.mem_map]; exact .inl ⟨x, hx, rfl⟩)
    · rw [hz]
      simp only [List.map_append, h3, partsOf, cellsL, SV.den, Value.cells, List.map_map]
      rfl

theorem row_cells {t : TypeId} {v : Value} {kl : List IntKind} (hc : isCells P t = true) (hn : P.cellsOf t = kl.length) (hts : (match P.cellTypes P.depth t with
    | some ts => kindsAre P kl ts
    | none => false) = true) (hok : Value.okWide P w r base t v) : ∃ l : List Int, v = .agg ((kl.zip l).map (fun p => Value.int p.1 p.2)).toArray ∧ l.length = kl.length ∧ ∀ p ∈ kl.zip l, p.1.has p.2 := by
  have key : ∃ cs, v = .agg cs ∧ cs.size = P.cellsOf t ∧ Row.okWide P w r base t cs := by
    unfold Value.okWide at hok
    unfold isCells at hc
    split at hc
    · rename_i fs hu; rw [hu] at hok; exact hok
    · rename_i n e hu; rw [hu] at hok; exact hok
    · cases hc
  obtain ⟨cs, rfl, hs, ts, ht, -, hall⟩ := key
  rw [ht] at hts
  have hlen : kl.length = ts.length := by
    have : ∀ (kl : List IntKind) (ts : List TypeId), kindsAre P kl ts = true → kl.length = ts.length := by
      intro kl
      induction kl with
      | nil => intro ts h; cases ts <;> simp [kindsAre] at *
      | cons k kl ih => intro ts h; cases ts with
        | nil => simp [kindsAre] at h
        | cons u ts => simp only [kindsAre, Bool.and_eq_true] at h; simp [ih ts h.2]
    exact this kl ts hts
  obtain ⟨l, h1, h2, h3⟩ := cells_kinds (P := P) (w := w) (r := r) (base := base) kl ts cs.toList hts (by simp [hs, hn]) (fun i v hi => by
    obtain ⟨u, hu, hok⟩ := hall i v (by simpa using hi)
    have hlt : i < cs.size := by
      have : i < cs.toList.length := (List.getElem?_eq_some_iff.1 hi).1
      simpa using this
    rw [Nat.mod_eq_of_lt (by omega)] at hu
    exact ⟨u, hu, hok⟩)
  refine ⟨l, ?_, h1, h3⟩
  congr 1
  apply Array.ext'
  simpa using h2

theorem open1 {t : TypeId} {v : Value} {k : AK} (hk : akOk P t k = true) (hok : Value.okWide P w r base t v) (ρ : Env) : ∃ a, fit1 k a ∧ has1 k a ∧ v = (can1 k a).den ρ := by
  cases k with
  | num k =>
    simp only [akOk] at hk
    have hu := kindIs_und hk
    unfold Value.okWide at hok
    rw [hu] at hok
    obtain ⟨x, rfl, hx⟩ := cell_int hk hok
    exact ⟨.n x, trivial, hx, by simp [can1, SV.den]⟩
  | bool =>
    simp only [akOk] at hk
    split at hk
    · rename_i hu
      unfold Value.okWide at hok
      rw [hu] at hok
      unfold Cell.okWide at hok
      rw [hu] at hok
      cases v <;> simp only [Cell.ok, hu] at hok <;> try exact hok.elim
      rename_i b
      exact ⟨.b b, trivial, trivial, by simp [can1, SV.den]⟩
    · cases hk
  | ints k n =>
    simp only [akOk, Bool.and_eq_true, Nat.beq_eq] at hk
    obtain ⟨⟨h1, h2⟩, h3⟩ := hk
    obtain ⟨l, rfl, hl, hh⟩ := row_cells (kl := List.replicate n k) h1 (by simpa using h2) h3 hok
    have hl : l.length = n := by simpa using hl
    rw [zip_replicate n k l hl] at hh ⊢
    refine ⟨.l l, hl, fun x hx => hh (k, x) (by simpa using hx), ?_⟩
    simp only [can1, SV.den, List.map_map]
    rfl
  | agg ks =>
    simp only [akOk, Bool.and_eq_true, Nat.beq_eq] at hk
    obtain ⟨⟨h1, h2⟩, h3⟩ := hk
    obtain ⟨l, rfl, hl, hh⟩ := row_cells (kl := flatK ks) h1 h2 h3 hok
    obtain ⟨ls, h4, h5, h6⟩ := flat_parts ρ ks l hl hh
    exact ⟨.a ls, h4, h5, by rw [h6]; simp only [can1, SV.den]⟩

def aksOk (P : Program) : List TypeId → List AK → Bool
  | [], [] => true
  | t :: ts, k :: ks => akOk P t k && aksOk P ts ks
  | _, _ => false

theorem openL (ρ : Env) : ∀ (ts : List TypeId) (ks : List AK) (vs : List Value), aksOk P ts ks = true → vs.length = ts.length → (∀ (j : Nat) t v, ts[j]? = some t → vs[j]? = some v → Value.okWide P w r base t v) →
    ∃ xs, fit ks xs ∧ hasA ks xs ∧ vs = denL ρ (can ks xs)
  | [], [], [], _, _, _ => ⟨[], trivial, trivial, by simp [can, denL]⟩
  | [], [], _ :: _, _, h, _ => by simp at h
  | [], _ :: _, _, h, _, _ => by simp [aksOk] at h
  | _ :: _, [], _, h, _, _ => by simp [aksOk] at h
  | _ :: _, _ :: _, [], _, h, _ => by simp at h
  | t :: ts, k :: ks, v :: vs, h, hl, hok => by
    simp only [aksOk, Bool.and_eq_true] at h
    obtain ⟨a, h1, h2, h3⟩ := open1 h.1 (hok 0 t v rfl rfl) ρ
    obtain ⟨xs, h4, h5, h6⟩ := openL ρ ts ks vs h.2 (by simpa using hl) (fun j t' v' ht hv => hok (j + 1) t' v' (by simpa using ht) (by simpa using hv))
    exact ⟨a :: xs, ⟨h1, h4⟩, ⟨h2, h5⟩, by simp only [can, denL, ← h3, ← h6]⟩
end

theorem parse1_can {k : AK} {a : AV} (h : fit1 k a) : parse1 k (can1 k a) = some a := by
  cases k <;> cases a <;> simp only [fit1] at h <;> try exact h.elim
  · simp [parse1, can1, asNum, numOf]
  · simp [parse1, can1, asInts]
  · simp [parse1, can1, boolOf]
  · rename_i ks ls
    have : ∀ (ks : List (IntKind × Nat)) (ls : List (List Int)), lens ks ls → asParts ks (partsOf ks ls) = some ls := by
      intro ks
      induction ks with
      | nil => intro ls h; cases ls with
        | nil => rfl
        | cons l ls => simp [lens] at h
      | cons k ks ih => intro ls h; cases ls with
        | nil => simp [lens] at h
        | cons l ls => simp [partsOf, asParts, asInts, ih ls h.2]
    simp [parse1, can1, this ks ls h]

theorem parse_can : ∀ {ks : List AK} {xs : List AV}, fit ks xs → parse ks (can ks xs) = some xs
  | [], [], _ => rfl
  | [], _ :: _, h => h.elim
  | _ :: _, [], h => h.elim
  | k :: ks, a :: xs, h => by simp only [can, parse, parse1_can h.1, parse_can h.2]

section
variable {H : Type} {enc : TypeId × Value → H} {P : Program}

/-- One closed fact: each parameter's type can be read and is a row of the table. -/
def rowed (P : Program) (ts : List TypeId) : Bool := ts.all fun t => P.readableRec t && decide (t < P.types.size)

theorem trodAll_stays (hl : laidOutB P = true) {W W' : World} (hb : Below W.heap.size W W') : ∀ {ts : List TypeId} {vs : List Value} {ds : List (DataW H)} {ps : List MemPlace}, rowed P ts = true →
    DataW.TrodAll enc P W 0 (fun _ => true) true ts vs ds ps → DataW.TrodAll enc P W' 0 (fun b => decide (b < W.heap.size)) true ts vs ds ps
  | [], [], [], _, _, h => h
  | [], [], _ :: _, _, _, h => h.elim
  | [], _ :: _, _, _, _, h => h.elim
  | _ :: _, [], _, _, _, h => h.elim
  | _ :: _, _ :: _, [], _, _, h => h.elim
  | t :: ts, v :: vs, d :: ds, ps, hr, h => by
    have hlt := h.lt
    obtain ⟨p, q, h1, h2, rfl⟩ := h
    simp only [rowed, List.all_cons, Bool.and_eq_true, decide_eq_true_eq] at hr
    exact ⟨p, q, Below.trod hl hr.1.1 hr.1.2 h1 hb (fun x hx => hlt x (by simp [hx])), trodAll_stays hl hb (by simpa [rowed] using hr.2) h2, rfl⟩

/-- **A law's contract gives its row's post-condition.** -/
theorem law_calls {G : World → Prop} {f : FuncId} {fn : Func} {s : ChangeSpec} {ks : List AK} {pre : List AV → Prop} {rt : TypeId} (h : FnOk P G f (ct ks pre [.bool] (fun _ => [.b true])))
    (hl : laidOutB P = true) (hks : aksOk P fn.params.toList ks = true) (hrow : rowed P fn.params.toList = true) (hres : fn.resultTypes.toList = [rt]) (hbool : P.underlying rt = some .bool) (hvars : s.vars = [])
    (hs : ∀ ds : List (DataW H), ds.length = fn.params.toList.length → s.fn H ds = { results := [.lit (.bool true)], args := ds })
    (hpre : ∀ xs, fit ks xs → hasA ks xs → pre xs)
    {W : World} {base : Nat} {args : Array Value} {ds gs : List (DataW H)} {before : List MemPlace}
    (hval : ∀ (j : Nat) t v, fn.params[j]? = some t → args[j]? = some v → Value.okWide P W .any base t v)
    (hW : DataW.Whole enc P fn.params.toList s.vars false W args.toList ds gs before) (hG : G W) :
    Calls P f args W fun e W' => ∃ v, e = .returned v ∧ s.post enc P fn false true false false W args v W' := by
  let ρ : Env := ⟨id, id, id, fun _ => undef, fun _ => undef⟩
  have hW' := hW
  obtain ⟨p, q, hA, hV, rfl, -, -⟩ := hW
  obtain ⟨hlen1, hlen2⟩ := trodAll_length hA
  obtain ⟨xs, h1, h2, h3⟩ := openL (P := P) (w := W) (r := .any) (base := base) ρ fn.params.toList ks args.toList hks hlen1 (fun j t v ht hv => hval j t v (by simpa using ht) (by simpa using hv))
  have hgs : gs = [] ∧ q = [] := by
    rw [hvars] at hV
    cases gs with
    | nil => exact ⟨rfl, hV⟩
    | cons g r => exact absurd hV (by intro h; cases h)
  obtain ⟨rfl, rfl⟩ := hgs
  have hreach : T.Reach (ct ks pre [.bool] (fun _ => [.b true]) (can ks xs)) (.bool true) := by
    unfold ct spG
    rw [parse_can h1]
    simp only [ctF, T.reach_need, T.reach_ret]
    exact ⟨hpre xs h1 h2, rfl⟩
  have hc := h.call (can ks xs) (.bool true) (fun x hx => (can_closed h1 x hx).wf) hreach ρ W hG
  have ha : args = (denL ρ (can ks xs)).toArray := by apply Array.ext'; simpa using h3
  rw [← ha] at hc
  refine hc.mono fun e W' ⟨he, hb⟩ => ?_
  subst he
  have hfn := hs ds hlen2
  refine ⟨_, rfl, ds, [], p ++ [], [], p, [], hW', ?_, ?_, ?_, hb.frame _, fun h => by cases h⟩
  · rw [List.append_nil, hfn]
    have hsz : fn.resultTypes.size = 1 := by rw [← Array.length_toList, hres]; rfl
    rw [hres, hsz]
    have : (SV.den ρ (.bool true)).resultList 1 = [.bool true] := by simp [SV.den, Value.resultList]
    rw [this]
    exact trodAll_mk1 (Go.RowKit.shut_bool hbool true)
  · rw [List.append_nil, hfn]
    exact trodAll_stays hl hb hrow hA
  · rw [List.append_nil, hfn, hvars]
    rfl
end
end Go.Sx

/- The symbolic layer: listed variables that are rows of numbers. -/
namespace Go.Sx
open Go.RowKit (Below)

/-- A variable's block holds these numbers. -/
def gInts (w : World) (g : Nat) (k : IntKind) (l : List Int) : Prop := g < w.heap.size ∧ ∀ j x, l[j]? = some x → w.cell? ⟨g, j, none⟩ = some (.int k x)

theorem gInts_keep {w w' : World} {g : Nat} {k : IntKind} {l : List Int} (hb : Below w.heap.size w w') (h : gInts w g k l) : gInts w' g k l :=
  ⟨Nat.lt_of_lt_of_le h.1 hb.size, fun j x hj => by rw [hb.cell (p := ⟨g, j, none⟩) h.1]; exact h.2 j x hj⟩

/-- Each of the listed variables holds what is told. -/
def GOf : List (Nat × IntKind × List Int) → World → Prop
  | [], _ => True
  | (g, k, l) :: r, w => gInts w g k l ∧ GOf r w

def gmOf : List (Nat × IntKind × List Int) → Mem
  | [] => []
  | (g, k, l) :: r => (1000000 + g, .st false [.ints k l.length l]) :: gmOf r

theorem GOf_keep : ∀ (r : List (Nat × IntKind × List Int)) (w w' : World), Below w.heap.size w w' → GOf r w → GOf r w'
  | [], _, _, _, _ => trivial
  | (_, _, _) :: r, w, w', hb, h => ⟨gInts_keep hb h.1, GOf_keep r w w' hb h.2⟩

theorem gmOf_look : ∀ (r : List (Nat × IntKind × List Int)) {i : Nat} {b : Blk}, look (gmOf r) i = some b → ∃ g k l, i = 1000000 + g ∧ b = .st false [.ints k l.length l] ∧ ∀ w, GOf r w → gInts w g k l
  | [], _, _, h => by cases h
  | (g, k, l) :: r, i, b, h => by
    simp only [gmOf, look] at h
    split at h
    · rename_i hi
      have := Nat.eq_of_beq_eq_true hi
      cases h
      exact ⟨g, k, l, this.symm, rfl, fun w hw => hw.1⟩
    · obtain ⟨g', k', l', h1, h2, h3⟩ := gmOf_look r h
      exact ⟨g', k', l', h1, h2, fun w hw => h3 w hw.2⟩

theorem gmOf_is (r : List (Nat × IntKind × List Int)) : GlobIs (GOf r) (gmOf r) := by
  refine ⟨fun i b h => ?_, fun w hw i b h => ?_⟩
  · obtain ⟨g, k, l, rfl, rfl, -⟩ := gmOf_look r h
    exact ⟨fun p hp => by simp at hp; subst hp; simp [isAtom], rfl, fun p => by simp [Blk.ids, idsL, SV.ids], by omega, rfl⟩
  · obtain ⟨g, k, l, rfl, rfl, hg⟩ := gmOf_look r h
    have := hg w hw
    refine ⟨by rw [Nat.add_sub_cancel_left]; exact this.1, fun ρ j v hj => ?_⟩
    rw [Nat.add_sub_cancel_left]
    simp only [Blk.cells, cellsL, SV.den, Value.cells, List.append_nil, List.getElem?_map, Option.map_eq_some_iff] at hj
    obtain ⟨x, hx, rfl⟩ := hj
    exact this.2 j x hx
end Go.Sx

/- The symbolic layer: what the listed variables give. -/
namespace Go.Sx

theorem mapM_get {α β : Type} {f : α → Option β} : ∀ {l : List α} {xs : List β}, l.mapM f = some xs → xs.length = l.length ∧ ∀ (i : Nat) (a : α), l[i]? = some a → ∃ b, xs[i]? = some b ∧ f a = some b
  | [], xs, h => by
    simp at h; subst h
    exact ⟨rfl, fun i a h => by simp at h⟩
  | a :: l, xs, h => by
    rw [List.mapM_cons] at h
    cases hf : f a with
    | none => simp [hf] at h
    | some b =>
      cases hm : l.mapM f with
      | none => simp [hf, hm] at h
      | some ys =>
        simp [hf, hm] at h
        subst h
        obtain ⟨h1, h2⟩ := mapM_get hm
        refine ⟨by simp [h1], fun i c hc => ?_⟩
        cases i with
        | zero => simp at hc; subst hc; exact ⟨b, rfl, hf⟩
        | succ i => exact h2 i c (by simpa using hc)

section
variable {H : Type} {enc : TypeId × Value → H} {P : Program} {w : World} {base : Nat} {sp : Nat → Bool} {held : Bool}

theorem trod_one_int {e : TypeId} {k : IntKind} {fuel : Nat} {c : Value} {x : Int} {ps : List MemPlace} (he : P.underlying e = some (.int k)) (h : DataW.trod enc P w base sp held fuel e [c] = some (.lit (.int k x), ps)) : c = .int k x := by
  cases fuel with
  | zero => simp [DataW.trod] at h
  | succ fuel =>
    unfold DataW.trod at h
    rw [he] at h
    cases c <;> simp at h
    obtain ⟨⟨rfl, -⟩, rfl, -⟩ := h
    rfl

/-- An array of numbers, read: its cells. -/
theorem trod_ints {t e : TypeId} {n : Nat} {k : IntKind} {fuel : Nat} {cs : List Value} {l : List Int} {ps : List MemPlace} (ht : P.underlying t = some (.array n e)) (he : P.underlying e = some (.int k)) (hc : P.cellsOf e = 1) (hn : P.cellsOf t = n)
    (h : DataW.trod enc P w base sp held fuel t cs = some (.agg (l.map fun x => .lit (.int k x)), ps)) : cs = l.map (Value.int k) := by
  cases fuel with
  | zero => simp [DataW.trod] at h
  | succ fuel =>
    unfold DataW.trod at h
    rw [ht] at h
    simp only at h
    split at h
    · rename_i hlen
      rw [hn] at hlen
      simp only [Option.map_eq_some_iff, Prod.mk.injEq, DataW.agg.injEq] at h
      obtain ⟨xs, hm, h1, -⟩ := h
      obtain ⟨h2, h3⟩ := mapM_get hm
      simp only [List.length_range] at h2
      have hll : l.length = n := by
        have := congrArg List.length h1
        simp at this; omega
      apply List.ext_getElem?
      intro i
      rcases Nat.lt_or_ge i n with hi | hi
      · obtain ⟨b, hb, hf⟩ := h3 i i (by simp [hi])
        have hcell : ((cs.drop (i * P.cellsOf e)).take (P.cellsOf e)) = [cs[i]'(by omega)] := by
          rw [hc, Nat.mul_one]
          have e : cs.drop i = cs[i]'(by omega) :: cs.drop (i + 1) := List.drop_eq_getElem_cons (by omega)
          rw [e]; rfl
        rw [hcell] at hf
        have hd : b.1 = .lit (.int k (l[i]'(by omega))) := by
          have := congrArg (fun z : List (DataW H) => z[i]?) h1
          simp only [List.getElem?_map, hb, Option.map_some] at this
          rw [List.getElem?_eq_getElem (by omega)] at this
          simpa using this
        obtain ⟨b1, b2⟩ := b
        simp only at hd; subst hd
        have := trod_one_int he hf
        rw [List.getElem?_eq_getElem (by omega), List.getElem?_map, List.getElem?_eq_getElem (by omega), this]
        rfl
      · rw [List.getElem?_eq_none (by omega), List.getElem?_eq_none (by simp; omega)]
    · cases h

theorem gInts_of {n : String} {g : Nat} {t e : TypeId} {m : Nat} {k : IntKind} {fuel : Nat} {cs : Array Value} {l : List Int} {ps : List MemPlace} (hg : P.globalNamed n = some g) (hv : w.var? P n = some cs)
    (ht : P.underlying t = some (.array m e)) (he : P.underlying e = some (.int k)) (hc : P.cellsOf e = 1) (hn : P.cellsOf t = m) (h : DataW.trod enc P w base sp held fuel t cs.toList = some (.agg (l.map fun x => .lit (.int k x)), ps)) : gInts w g k l := by
  have hcs := trod_ints ht he hc hn h
  have hlt : g < w.heap.size := by
    unfold World.var? at hv
    rw [hg] at hv
    simp only [Option.bind_some] at hv
    split at hv
    · rename_i hh; exact (Array.getElem?_eq_some_iff.1 hh).1
    · cases hv
  refine ⟨hlt, fun j x hx => ?_⟩
  rw [World.var?_cell hg hv j, ← Array.getElem?_toList, hcs, List.getElem?_map, hx]
  rfl
end
end Go.Sx

/- The symbolic layer: contracts over slices: lists of them; from a law's contract to its row. -/
namespace Go.Sx
open Go.RowKit (Below Below.trod Below.frame)
open Go.ChangeShapes

abbrev MSpec := List SV → List (Option VI) → Nat → T (SV × Option Blk)

def fnmOf : List (Nat × MSpec) → FuncId → Option MSpec
  | [], _ => none
  | (j, s) :: l, g => match Nat.beq j g with
    | true => some s
    | false => fnmOf l g

def FnmsOk (P : Program) (G : World → Prop) : List (Nat × MSpec) → Prop
  | [] => True
  | (g, s) :: l => FnmS P G g s ∧ FnmsOk P G l

theorem fnmOf_ok {P : Program} {G : World → Prop} : ∀ {l : List (Nat × MSpec)}, FnmsOk P G l → ∀ g s, fnmOf l g = some s → FnmS P G g s
  | [], _, g, s, h => by cases h
  | (j, t) :: l, hl, g, s, h => by
    simp only [fnmOf] at h
    split at h
    · rename_i hj
      have := Nat.eq_of_beq_eq_true hj
      subst this
      cases h
      exact hl.1
    · exact fnmOf_ok hl.2 g s h

def cxM (tab : Tab) (exts fns : List (Nat × (List SV → T SV))) (fms : List (Nat × MSpec)) : Cx := ⟨tab, fnsOf exts, fnsOf fns, fun _ => none, fnmOf fms⟩

theorem cxM_ok {P : Program} {G : World → Prop} {tab : Tab} {exts fns : List (Nat × (List SV → T SV))} {fms : List (Nat × MSpec)} (ht : TabOk P tab) (he : ExtsOk P exts) (hf : FnsOk P G fns) (hfm : FnmsOk P G fms) (hk : ∀ w w', Below w.heap.size w w' → G w → G w') (hm : P.follows .mixedOrders = true) :
    CxOk P G (cxM tab exts fns fms) := by
  refine ⟨ht, fun g s h => ?_, fun g s h => ?_, hk, hm, fun _ _ _ _ g h hh => (by cases hh), fun Γ hG h0 hg g s hs => ?_⟩
  · have := extsOf_ok he g s h
    exact ⟨⟨fun args v hw hr => (this.closed args v hw hr).wf, fun args v hr p _ => this.ids args v hr p⟩, this.call⟩
  · have := fnsOf_ok hf g s h
    exact ⟨⟨fun args v hw hr => (this.closed args v hw hr).wf, fun args v hr p _ => this.ids args v hr p⟩, this.enters, this.call⟩
  · have := fnmOf_ok hfm g s hs
    exact ⟨this.1, fun args v ob ρ S a w hr hw hi h1 h2 h3 => this.2 Γ hG h0 hg args v ob ρ S a w hr hw hi h1 h2 h3⟩

/-! ### Reading a law's arguments -/
/-- A type that is numbers, all of one kind. -/
def intsT (P : Program) : Nat → TypeId → IntKind → Bool
  | 0, _, _ => false
  | d + 1, t, k => match P.underlying t with
    | some (.int k') => decide (k' = k) && Nat.beq (P.cellsOf t) 1
    | some (.array n e) => intsT P d e k && Nat.beq (P.cellsOf t) (n * P.cellsOf e) && Nat.blt 0 (P.cellsOf e)
    | _ => false

def allInts (k : IntKind) (cs : List Value) : Prop := ∀ c ∈ cs, ∃ x, c = .int k x ∧ k.has x

theorem allInts_list {k : IntKind} : ∀ {cs : List Value}, allInts k cs → ∃ l : List Int, l.length = cs.length ∧ hasL k l ∧ cs = l.map (Value.int k)
  | [], _ => ⟨[], rfl, fun x hx => (by cases hx), rfl⟩
  | c :: cs, h => by
    obtain ⟨x, rfl, hx⟩ := h c (by simp)
    obtain ⟨l, h1, h2, h3⟩ := allInts_list (cs := cs) fun d hd => h d (by simp [hd])
    exact ⟨x :: l, by simp [h1], fun y hy => by
      rcases List.mem_cons.1 hy with rfl | hy
      · exact hx
      · exact h2 y hy, by simp [← h3]⟩

section
variable {H : Type} {enc : TypeId × Value → H} {P : Program} {w : World} {base : Nat} {sp : Nat → Bool} {held : Bool}

theorem trod_ints_all {k : IntKind} : ∀ (d fuel : Nat) (t : TypeId) (cs : List Value) (y : DataW H × List MemPlace), intsT P d t k = true → DataW.trod enc P w base sp held fuel t cs = some y → cs.length = P.cellsOf t ∧ allInts k cs
  | 0, _, _, _, _, h, _ => by cases h
  | d + 1, 0, _, _, _, _, h => by simp [DataW.trod] at h
  | d + 1, fuel + 1, t, cs, y, ht, h => by
    simp only [intsT] at ht
    unfold DataW.trod at h
    split at ht
    · rename_i k' hu
      simp only [Bool.and_eq_true, decide_eq_true_eq] at ht
      obtain ⟨rfl, h1⟩ := ht
      have h1 := Nat.eq_of_beq_eq_true h1
      rw [hu] at h
      match cs, h with
      | [], h => simp at h
      | [c], h =>
        cases c <;> simp at h
        rename_i k2 x
        obtain ⟨⟨rfl, hw⟩, -⟩ := h
        simp only [Lit.wf, Bool.and_eq_true, decide_eq_true_eq] at hw
        refine ⟨by simp [h1], fun c hc => ?_⟩
        simp at hc; subst hc
        exact ⟨x, rfl, hw⟩
      | _ :: _ :: _, h => simp at h
    · rename_i n e hu
      simp only [Bool.and_eq_true] at ht
      obtain ⟨⟨ht1, ht2⟩, ht3⟩ := ht
      have ht2 := Nat.eq_of_beq_eq_true ht2
      have ht3 : 0 < P.cellsOf e := Nat.le_of_ble_eq_true ht3
      rw [hu] at h
      simp only at h
      split at h
      · rename_i hlen
        simp only [Option.map_eq_some_iff] at h
        obtain ⟨xs, hm, -⟩ := h
        obtain ⟨h2, h3⟩ := mapM_get hm
        refine ⟨hlen, fun c hc => ?_⟩
        obtain ⟨j, hj, rfl⟩ := List.getElem_of_mem hc
        have hdiv : j / P.cellsOf e < n := by
          rw [Nat.div_lt_iff_lt_mul ht3]
          omega
        obtain ⟨b, -, hf⟩ := h3 (j / P.cellsOf e) (j / P.cellsOf e) (by simp [hdiv])
        obtain ⟨-, hall⟩ := trod_ints_all d fuel e _ b ht1 hf
        refine hall _ ?_
        have hmod : j % P.cellsOf e < P.cellsOf e := Nat.mod_lt _ ht3
        have hjj : j / P.cellsOf e * P.cellsOf e + j % P.cellsOf e = j := by rw [Nat.mul_comm]; exact Nat.div_add_mod j _
        have : ((cs.drop (j / P.cellsOf e * P.cellsOf e)).take (P.cellsOf e))[j % P.cellsOf e]? = some cs[j] := by
          rw [List.getElem?_take, if_pos hmod, List.getElem?_drop, hjj, List.getElem?_eq_getElem hj]
        exact List.mem_of_getElem? this
      · cases h
    · cases ht

theorem addr_add_off (a : Addr) (i : Nat) (h : a.spot = none) : a.add i = ⟨a.block, a.off + i, none⟩ := by
  obtain ⟨g, o, s⟩ := a
  simp only at h; subst h
  exact addv

/-- A slice of numbers, read. -/
theorem trod_slice {k : IntKind} {d fuel : Nat} {t e : TypeId} {v : Value} {y : DataW H × List MemPlace} (ht : P.underlying t = some (.slice e)) (he : intsT P d e k = true) (h0 : 0 < P.cellsOf e) (h : DataW.trod enc P w base sp held fuel t [v] = some y) :
    ∃ n l, l.length = n * P.cellsOf e ∧ hasL k l ∧ VecRead w w.heap.size (P.cellsOf e) v n (l.map (Value.int k)) ∧ sliceV v = v := by
  cases fuel with
  | zero => simp [DataW.trod] at h
  | succ fuel =>
    unfold DataW.trod at h
    rw [ht] at h
    cases v <;> simp only at h <;> try (cases h; done)
    rename_i ao n c
    cases ao with
    | none =>
      cases n <;> cases c <;> simp only at h <;> try (cases h; done)
      exact ⟨0, [], by simp, fun x hx => (by cases hx), ⟨by simp, none, 0, rfl, Nat.le_refl _, .inl rfl⟩, rfl⟩
    | some a =>
      simp only at h
      split at h
      · rename_i hb
        rw [Option.bind_eq_some_iff] at h
        obtain ⟨elems, hel, -⟩ := h
        obtain ⟨-, hg⟩ := mapM_get hel
        have elem : ∀ i, i < n → ∃ cs, w.cells? base (a.add (i * P.cellsOf e)) (P.cellsOf e) = some cs ∧ cs.length = P.cellsOf e ∧ allInts k cs := by
          intro i hi
          obtain ⟨b, -, hf⟩ := hg i i (by simp [hi])
          rw [Option.bind_eq_some_iff] at hf
          obtain ⟨cs, hc, hf⟩ := hf
          obtain ⟨h1, h2⟩ := trod_ints_all d fuel e cs b he hf
          exact ⟨cs, hc, h1, h2⟩
        by_cases hn : n = 0
        · subst hn
          exact ⟨0, [], by simp, fun x hx => (by cases hx), ⟨by simp, some a, c, rfl, Nat.zero_le _, .inl rfl⟩, rfl⟩
        · have hspot : a.spot = none := by
            obtain ⟨cs, hc, hl, -⟩ := elem 0 (by omega)
            obtain ⟨-, -, hcell⟩ := World.cells?_some hc
            have hx := (hcell 0 h0).trans (List.getElem?_eq_getElem (by omega : 0 < cs.length))
            rw [Nat.zero_mul] at hx
            have e0 : (a.add 0).add 0 = a := by unfold Addr.add; simp
            rw [e0] at hx
            unfold World.cell? at hx
            split at hx
            · split at hx
              · cases hx
              · rename_i hs; cases hsp : a.spot <;> simp_all
            · cases hx
          have cell : ∀ j, j < n * P.cellsOf e → ∃ x, w.cell? ⟨a.block, a.off + j, none⟩ = some (.int k x) ∧ k.has x := by
            intro j hj
            have hdiv : j / P.cellsOf e < n := by rw [Nat.div_lt_iff_lt_mul h0]; omega
            have hmod : j % P.cellsOf e < P.cellsOf e := Nat.mod_lt _ h0
            have hjj : j / P.cellsOf e * P.cellsOf e + j % P.cellsOf e = j := by rw [Nat.mul_comm]; exact Nat.div_add_mod j _
            obtain ⟨cs, hc, hl, hall⟩ := elem _ hdiv
            obtain ⟨-, -, hcell⟩ := World.cells?_some hc
            have hx := (hcell (j % P.cellsOf e) hmod).trans (List.getElem?_eq_getElem (by omega : j % P.cellsOf e < cs.length))
            obtain ⟨x, hx2, hk⟩ := hall _ (List.getElem_mem (by omega : j % P.cellsOf e < cs.length))
            rw [hx2, addr_add_off a _ hspot, addr_add_off _ _ rfl] at hx
            simp only at hx
            rw [Nat.add_assoc, hjj] at hx
            exact ⟨x, hx, hk⟩
          let f : Nat → Int := fun j => match w.cell? ⟨a.block, a.off + j, none⟩ with
            | some (.int _ x) => x
            | _ => 0
          have hfj : ∀ j, j < n * P.cellsOf e → w.cell? ⟨a.block, a.off + j, none⟩ = some (.int k (f j)) ∧ k.has (f j) := fun j hj => by
            obtain ⟨x, hx, hk⟩ := cell j hj
            have : f j = x := by simp only [f, hx]
            rw [this]; exact ⟨hx, hk⟩
          refine ⟨n, (List.range (n * P.cellsOf e)).map f, by simp, fun x hx => ?_, ⟨by simp, some a, c, rfl, hb.2.1, .inr ⟨a.block, a.off, ?_, ?_, fun j u hj => ?_⟩⟩, rfl⟩
          · simp at hx
            obtain ⟨j, hj, rfl⟩ := hx
            exact (hfj j hj).2
          · obtain ⟨g, o, s⟩ := a
            simp only at hspot; subst hspot; rfl
          · have hpos : 0 < n * P.cellsOf e := Nat.mul_pos (by omega) h0
            exact cell_lt (p := ⟨a.block, a.off + 0, none⟩) (hfj 0 hpos).1
          · simp only [List.map_map, List.getElem?_map, Option.map_eq_some_iff] at hj
            obtain ⟨i, hi, rfl⟩ := hj
            have hlt : j < n * P.cellsOf e := by
              rcases Nat.lt_or_ge j (n * P.cellsOf e) with hl | hl
              · exact hl
              · rw [List.getElem?_eq_none (by simpa using hl)] at hi; cases hi
            rw [List.getElem?_range hlt] at hi
            cases hi
            exact (hfj j hlt).1
      · cases h
end
end Go.Sx

/- The symbolic layer: from a law's contract over slices to its row. -/
namespace Go.Sx
open Go.RowKit (Below Below.trod Below.frame)
open Go.ChangeShapes

def hasPV : List PK → List PV → Prop
  | .i k _ :: ks, .l xs :: us => hasL k xs ∧ hasPV ks us
  | .s _ k _ :: ks, .s _ l :: us => hasL k l ∧ hasPV ks us
  | _, _ => True
def hasM : List MK → List MV → Prop
  | .p k :: ks, .p a :: us => has1 k a ∧ hasM ks us
  | .s _ k _ :: ks, .s _ l :: us => hasL k l ∧ hasM ks us
  | .x ps :: ks, .x us :: vs => hasPV ps us ∧ hasM ks vs
  | _, _ => True

def sliceOk (P : Program) (e : TypeId) (k : IntKind) (st : Nat) (t : TypeId) : Bool := match P.underlying t with
  | some (.slice e') => Nat.beq e' e && intsT P 9 e k && Nat.beq (P.cellsOf e) st && Nat.blt 0 st
  | _ => false
def fieldOk (P : Program) (t : TypeId) : PK → Bool
  | .i k n => intsT P 9 t k && Nat.beq (P.cellsOf t) n
  | .s e k st => sliceOk P e k st t && Nat.beq (P.cellsOf t) 1
def fieldsOk (P : Program) : List PK → List Field → Nat → Nat → Bool
  | [], [], o, N => Nat.beq o N
  | k :: ks, f :: fs, o, N => Nat.beq f.offset o && fieldOk P f.type k && fieldsOk P ks fs (o + P.cellsOf f.type) N
  | _, _, _, _ => false
def mkOk (P : Program) (t : TypeId) : MK → Bool
  | .p k => akOk P t k
  | .s e k st => sliceOk P e k st t
  | .x ps => match P.underlying t with
    | some (.struct fs) => fieldsOk P ps fs.toList 0 (P.cellsOf t)
    | _ => false
def mksOk (P : Program) : List TypeId → List MK → Bool
  | [], [] => true
  | t :: ts, k :: ks => mkOk P t k && mksOk P ts ks
  | _, _ => false

section
variable {H : Type} {enc : TypeId × Value → H} {P : Program} {w : World} {base : Nat} {sp : Nat → Bool} {held : Bool}

theorem trod_slice_ok {e t : TypeId} {k : IntKind} {st fuel : Nat} {cs : List Value} {y : DataW H × List MemPlace} (ho : sliceOk P e k st t = true) (h : DataW.trod enc P w base sp held fuel t cs = some y) :
    ∃ v n l, cs = [v] ∧ l.length = n * st ∧ hasL k l ∧ VecRead w w.heap.size st v n (l.map (Value.int k)) ∧ sliceV v = v := by
  unfold sliceOk at ho
  split at ho
  · rename_i e' hu
    simp only [Bool.and_eq_true] at ho
    obtain ⟨⟨⟨h1, h2⟩, h3⟩, h4⟩ := ho
    have h1 := Nat.eq_of_beq_eq_true h1
    have h3 := Nat.eq_of_beq_eq_true h3
    have h4 : 0 < st := Nat.le_of_ble_eq_true h4
    subst h1; subst h3
    have : ∃ v, cs = [v] := by
      cases fuel with
      | zero => simp [DataW.trod] at h
      | succ fuel =>
        unfold DataW.trod at h
        rw [hu] at h
        match cs, h with
        | [], h => simp at h
        | [v], _ => exact ⟨v, rfl⟩
        | a :: _ :: _, h => cases a <;> simp at h
    obtain ⟨v, rfl⟩ := this
    obtain ⟨n, l, q1, q2, q3, q4⟩ := trod_slice hu h2 h4 h
    exact ⟨v, n, l, rfl, q1, q2, q3, q4⟩
  · cases ho

theorem open_parts : ∀ (ks : List PK) (fs : List Field) (o : Nat) (cs : List Value), fieldsOk P ks fs o cs.length = true → (∀ f ∈ fs, ∃ fuel y, DataW.trod enc P w base sp held fuel f.type ((cs.drop f.offset).take (P.cellsOf f.type)) = some y) →
    ∃ us vals, fitP ks us ∧ hasPV ks us ∧ vals.length = cntP ks ∧ CameB false (fun k st val n l => VecRead w w.heap.size st val n (l.map (Value.int k))) (blP false ks us) vals ∧ ∀ ρ' j, At ρ' j vals → cellsL ρ' (svP ks us j) = cs.drop o
  | [], [], o, cs, h, _ => by
    have := Nat.eq_of_beq_eq_true h
    exact ⟨[], [], trivial, trivial, rfl, CameB.nil, fun ρ' j _ => by rw [this]; simp [svP, cellsL]⟩
  | [], _ :: _, _, _, h, _ => by simp [fieldsOk] at h
  | _ :: _, [], _, _, h, _ => by simp [fieldsOk] at h
  | k :: ks, f :: fs, o, cs, h, ht => by
    simp only [fieldsOk, Bool.and_eq_true] at h
    obtain ⟨⟨h1, h2⟩, h3⟩ := h
    have h1 := Nat.eq_of_beq_eq_true h1
    obtain ⟨us, vals, r1, r2, r2', r3, r4⟩ := open_parts ks fs _ cs h3 (fun g hg => ht g (by simp [hg]))
    obtain ⟨fuel, y, hy⟩ := ht f (by simp)
    rw [h1] at hy
    have hsplit : cs.drop o = (cs.drop o).take (P.cellsOf f.type) ++ cs.drop (o + P.cellsOf f.type) := by
      rw [← List.drop_drop, List.take_append_drop]
    cases k with
    | i k n =>
      simp only [fieldOk, Bool.and_eq_true] at h2
      have hn := Nat.eq_of_beq_eq_true h2.2
      obtain ⟨q1, q2⟩ := trod_ints_all 9 fuel f.type _ y h2.1 hy
      obtain ⟨l, l1, l2, l3⟩ := allInts_list q2
      refine ⟨.l l :: us, vals, ⟨by omega, r1⟩, ⟨l2, r2⟩, r2', r3, fun ρ' j hj => ?_⟩
      simp only [svP, cellsL, SV.den, Value.cells, r4 ρ' j hj]
      rw [hsplit, l3]
    | s e k st =>
      simp only [fieldOk, Bool.and_eq_true] at h2
      obtain ⟨v, n, l, q0, q1, q2, q3, q4⟩ := trod_slice_ok h2.1 hy
      refine ⟨.s n l :: us, v :: vals, ⟨q1, r1⟩, ⟨q2, r2⟩, by simp [r2', cntP], r3.cons q3 q4, fun ρ' j hj => ?_⟩
      simp only [svP, cellsL, r4 ρ' _ hj.tail, SV.den, hj.head, q4]
      rw [hsplit, q0, one_cells (by rw [← q4]; exact sliceV_one v)]

theorem okWide_slice {r : Reach} {b0 : Nat} {e t : TypeId} {k : IntKind} {st : Nat} {v : Value} (ho : sliceOk P e k st t = true) (h : Value.okWide P w r b0 t v) : ∃ a n c, v = .slice a n c := by
  unfold sliceOk at ho
  split at ho
  · rename_i e' hu
    unfold Value.okWide at h
    rw [hu] at h
    unfold Cell.okWide at h
    rw [hu] at h
    cases v <;> simp only [Cell.ok, hu] at h <;> try exact h.elim
    exact ⟨_, _, _, rfl⟩
  · cases ho

theorem openM {r : Reach} {b0 : Nat} : ∀ (ts : List TypeId) (ks : List MK) (vs : List Value) (ds : List (DataW H)) (ps : List MemPlace), mksOk P ts ks = true → DataW.TrodAll enc P w base sp held ts vs ds ps → (∀ (j : Nat) t v, ts[j]? = some t → vs[j]? = some v → Value.okWide P w r b0 t v) →
    ∃ us vals, fitM ks us ∧ hasM ks us ∧ vals.length = cntM ks ∧ CameB false (fun k st val n l => VecRead w w.heap.size st val n (l.map (Value.int k))) (blM false ks us) vals ∧ ∀ ρ' j, At ρ' j vals → denL ρ' (svM ks us j) = vs
  | [], [], [], _, _, _, _, _ => ⟨[], [], trivial, trivial, rfl, CameB.nil, fun ρ' j _ => rfl⟩
  | [], [], _ :: _, _, _, _, h, _ => by simp [DataW.TrodAll] at h
  | [], _ :: _, _, _, _, h, _, _ => by simp [mksOk] at h
  | _ :: _, [], _, _, _, h, _, _ => by simp [mksOk] at h
  | _ :: _, _ :: _, [], _, _, _, h, _ => by simp [DataW.TrodAll] at h
  | t :: ts, k :: ks, v :: vs, [], _, _, h, _ => by simp [DataW.TrodAll] at h
  | t :: ts, k :: ks, v :: vs, d :: ds, ps, hk, h, hok => by
    simp only [mksOk, Bool.and_eq_true] at hk
    obtain ⟨p, q, h1, h2, -⟩ := h
    obtain ⟨us, vals, r1, r2, r3, r4, r5⟩ := openM ts ks vs ds q hk.2 h2 (fun j t' v' a b => hok (j + 1) t' v' (by simpa using a) (by simpa using b))
    obtain ⟨fuel, hy⟩ := h1
    cases k with
    | p k =>
      obtain ⟨a, f1, f2, f0⟩ := open1 (P := P) (w := w) hk.1 (hok 0 t v rfl rfl) ⟨id, id, id, fun _ => undef, fun _ => undef⟩
      have f3 : ∀ ρ, v = (can1 k a).den ρ := fun ρ => f0.trans ((can1_closed f1).den _ ρ)
      exact ⟨.p a :: us, vals, ⟨f1, r1⟩, ⟨f2, r2⟩, r3, r4, fun ρ' j hj => by simp only [svM, denL, r5 ρ' j hj, ← f3 ρ']⟩
    | s e k st =>
      obtain ⟨u, n, l, q0, q1, q2, q3, q4⟩ := trod_slice_ok hk.1 hy
      have huv : v = u := by
        obtain ⟨a, m, c, rfl⟩ := okWide_slice hk.1 (hok 0 t v rfl rfl)
        simpa [Value.cells] using q0
      subst huv
      exact ⟨.s n l :: us, v :: vals, ⟨q1, r1⟩, ⟨q2, r2⟩, by simp [r3, cntM], r4.cons q3 q4, fun ρ' j hj => by simp only [svM, denL, r5 ρ' _ hj.tail, SV.den, hj.head, q4]⟩
    | x pk =>
      simp only [mkOk] at hk
      have hk1 := hk.1
      split at hk1
      · rename_i fs hu
        have hv := hok 0 t v rfl rfl
        unfold Value.okWide at hv
        rw [hu] at hv
        obtain ⟨cs, rfl, hsz, -⟩ := hv
        have hy : DataW.trod enc P w base sp held fuel t cs.toList = some (d, p) := hy
        cases fuel with
        | zero => simp [DataW.trod] at hy
        | succ fuel =>
          unfold DataW.trod at hy
          rw [hu] at hy
          simp only at hy
          have hlen : cs.toList.length = P.cellsOf t := by simpa using hsz
          · rw [if_pos hlen] at hy
            simp only [Option.map_eq_some_iff] at hy
            obtain ⟨xs, hm, -⟩ := hy
            obtain ⟨m1, m2⟩ := mapM_get hm
            rw [← hlen] at hk1
            obtain ⟨pu, pvals, p1, p2, p2', p3, p4⟩ := open_parts (enc := enc) (w := w) (base := base) (sp := sp) (held := held) pk fs.toList 0 cs.toList hk1 (fun f hf => by
              obtain ⟨i, hi⟩ := List.getElem?_of_mem hf
              obtain ⟨b, -, hb⟩ := m2 i f hi
              exact ⟨fuel, b, hb⟩)
            refine ⟨.x pu :: us, pvals ++ vals, ⟨p1, r1⟩, ⟨p2, r2⟩, by simp [r3, p2', cntM, Nat.add_comm], p3.append r4, fun ρ' j hj => ?_⟩
            have hr := hj.right
            rw [p2'] at hr
            simp only [svM, denL, r5 ρ' _ hr, SV.den, p4 ρ' j hj.left, List.drop_zero, Array.toArray_toList]
      · cases hk1
end

theorem vecAt_numb {bs : List Blk} {t : Nat} {own : Bool} {e : TypeId} {k : IntKind} {st n : Nat} {l : List Int} (h : bs[t]? = some (.vec own e k st n l)) : vecAt (numb 0 bs) t = some ⟨t, own, e, k, st, 0, n, l, true⟩ := by
  have := look_numb_some bs 0 t _ h
  rw [Nat.zero_add] at this
  unfold vecAt
  rw [this]

theorem parseS_sl {k : IntKind} {st n : Nat} {l : List Int} {i j : Nat} {own : Bool} {e : TypeId} {rest : List (Option VI)} : parseS k st (.sl i) (some ⟨j, own, e, k, st, 0, n, l, true⟩ :: rest) = some (n, l, rest) := by
  simp [parseS, VI.cont]

theorem parseP_sv : ∀ {ks : List PK} {us : List PV} {j : Nat} {bs : List Blk} {rest : List (Option VI)}, fitP ks us → (∀ (t : Nat) b, (blP false ks us)[t]? = some b → bs[j + t]? = some b) →
    parseP ks (svP ks us j) ((slsL (svP ks us j)).map (vecAt (numb 0 bs)) ++ rest) = some (us, rest)
  | [], [], j, bs, rest, _, _ => rfl
  | [], _ :: _, _, _, _, h, _ => h.elim
  | .i k n :: ks, [], j, bs, rest, h, _ => h.elim
  | .s e k st :: ks, [], j, bs, rest, h, _ => h.elim
  | .i k n :: ks, .s _ _ :: us, j, bs, rest, h, _ => h.elim
  | .s e k st :: ks, .l _ :: us, j, bs, rest, h, _ => h.elim
  | .i k n :: ks, .l xs :: us, j, bs, rest, h, hb => by
    have ih := parseP_sv (ks := ks) (us := us) (j := j) (bs := bs) (rest := rest) h.2 hb
    simp only [svP, slsL, slsV, List.nil_append, parseP, asInts, decide_true, Nat.beq_refl, ih]
  | .s e k st :: ks, .s n l :: us, j, bs, rest, h, hb => by
    have ih := parseP_sv (ks := ks) (us := us) (j := j + 1) (bs := bs) (rest := rest) h.2 (fun t b ht => by
      have := hb (t + 1) b (by simpa [blP] using ht)
      rw [show j + 1 + t = j + (t + 1) from by omega]; exact this)
    have h0 := hb 0 _ rfl
    rw [Nat.add_zero] at h0
    simp only [svP, slsL, slsV, List.map_cons, List.cons_append, List.nil_append, vecAt_numb h0, parseP, parseS_sl, ih]

theorem parseM_sv : ∀ {ks : List MK} {us : List MV} {j : Nat} {bs : List Blk} {rest : List (Option VI)}, fitM ks us → (∀ (t : Nat) b, (blM false ks us)[t]? = some b → bs[j + t]? = some b) →
    parseM ks (svM ks us j) ((slsL (svM ks us j)).map (vecAt (numb 0 bs)) ++ rest) = some (us, rest)
  | [], [], j, bs, rest, _, _ => rfl
  | [], _ :: _, _, _, _, h, _ => h.elim
  | k :: ks, [], j, bs, rest, h, _ => by cases k <;> exact h.elim
  | k :: ks, u :: us, j, bs, rest, h, hb => by
    cases k <;> cases u <;> simp only [fitM] at h <;> try exact h.elim
    · rename_i k a
      have ih := parseM_sv (ks := ks) (us := us) (j := j) (bs := bs) (rest := rest) h.2 (by simpa [blM] using hb)
      have hs : slsV (can1 k a) = [] := by
        cases k <;> cases a <;> try rfl
        simp only [can1, slsV]
        have : ∀ (ks : List (IntKind × Nat)) (ls : List (List Int)), slsL (partsOf ks ls) = [] := by
          intro ks
          induction ks with
          | nil => intro ls; cases ls <;> rfl
          | cons k ks ih => intro ls; cases ls with
            | nil => rfl
            | cons l ls => simp [partsOf, slsL, slsV, ih]
        exact this _ _
      simp only [svM, slsL, hs, List.nil_append, parseM, parse1_can h.1, ih]
    · rename_i e k st n l
      have ih := parseM_sv (ks := ks) (us := us) (j := j + 1) (bs := bs) (rest := rest) h.2 (fun t b ht => by
        have := hb (t + 1) b (by simpa [blM] using ht)
        rw [show j + 1 + t = j + (t + 1) from by omega]; exact this)
      have h0 := hb 0 _ rfl
      rw [Nat.add_zero] at h0
      simp only [svM, slsL, slsV, List.map_cons, List.cons_append, List.nil_append, vecAt_numb h0, parseM, parseS_sl, ih]
    · rename_i pk pu
      have hlen := blP_length (own := false) h.1
      have ih := parseM_sv (ks := ks) (us := us) (j := j + cntP pk) (bs := bs) (rest := rest) h.2 (fun t b ht => by
        have := hb (cntP pk + t) b (by
          simp only [blM]
          rw [List.getElem?_append_right (by omega), hlen, Nat.add_sub_cancel_left]; exact ht)
        rw [Nat.add_assoc]; exact this)
      have ihp := parseP_sv (ks := pk) (us := pu) (j := j) (bs := bs) (rest := (slsL (svM ks us (j + cntP pk))).map (vecAt (numb 0 bs)) ++ rest) h.1 (fun t b ht => hb t b (by
        simp only [blM]
        rw [List.getElem?_append_left (by
          rcases Nat.lt_or_ge t (blP false pk pu).length with hl | hl
          · exact hl
          · rw [List.getElem?_eq_none hl] at ht; cases ht)]; exact ht))
      simp only [svM, slsL, slsV, List.map_append, List.append_assoc, parseM, ihp, ih]

section
variable {H : Type} {enc : TypeId × Value → H} {P : Program}

/-- **A law's contract over slices gives its row's post-condition.** -/
theorem law_callsM {G : World → Prop} {f : FuncId} {fn : Func} {s : ChangeSpec} {ks : List MK} {pre : List MV → Prop} {rt : TypeId} (h : FnmS P G f (ctM ks pre [.p .bool] (fun _ => [.p (.b true)])))
    (hl : laidOutB P = true) (hks : mksOk P fn.params.toList ks = true) (hrow : rowed P fn.params.toList = true) (hres : fn.resultTypes.toList = [rt]) (hbool : P.underlying rt = some .bool) (hvars : s.vars = [])
    (hs : ∀ ds : List (DataW H), ds.length = fn.params.toList.length → s.fn H ds = { results := [.lit (.bool true)], args := ds })
    (hpre : ∀ xs, fitM ks xs → hasM ks xs → pre xs) (hcnt : cntM ks < 1000000)
    {W : World} {base : Nat} {args : Array Value} {ds gs : List (DataW H)} {before : List MemPlace}
    (hval : ∀ (j : Nat) t v, fn.params[j]? = some t → args[j]? = some v → Value.okWide P W .any base t v)
    (hW : DataW.Whole enc P fn.params.toList s.vars false W args.toList ds gs before) (hG : G W) :
    Calls P f args W fun e W' => ∃ v, e = .returned v ∧ s.post enc P fn false true false false W args v W' := by
  have hW' := hW
  obtain ⟨p, q, hA, hV, rfl, -, -⟩ := hW
  obtain ⟨hlen1, hlen2⟩ := trodAll_length hA
  obtain ⟨xs, vals, h1, h2, h3, h4, h5⟩ := openM (P := P) (w := W) (r := .any) (b0 := base) fn.params.toList ks args.toList ds _ hks hA (fun j t v ht hv => hval j t v (by simpa using ht) (by simpa using hv))
  have hgs : gs = [] ∧ q = [] := by
    rw [hvars] at hV
    cases gs with
    | nil => exact ⟨rfl, hV⟩
    | cons g r => exact absurd hV (by intro h; cases h)
  obtain ⟨rfl, rfl⟩ := hgs
  have hgm : GlobIs G ([] : Mem) := ⟨fun i b hl => (by cases hl), fun w _ i b hl => (by cases hl)⟩
  have hrel := entryM_rel hgm h1 h4 (zm := []) (fun i b hl => by cases hl) (ks.length + 1) (fun _ => undef) hG
  generalize hρ0 : (⟨fun i => i - 1000000, fun _ => 0, fun _ => 0, fun _ => undef, fun i => vals.getD i undef⟩ : Env) = ρ0 at hrel
  have hat : At ρ0 0 vals := fun t v hv => by rw [← hρ0]; simp [List.getD, hv]
  have hargs := h5 ρ0 0 hat
  have hg : GlobOk ⟨W, ρ0, 0, G, fun _ _ => False, 0⟩ := fun g => ⟨by simp [gid, ← hρ0], by simp [← hρ0]⟩
  have hlk : look (numb 0 (blM false ks xs) ++ (([] : Mem) ++ [])) (cntM ks) = none := by
    rw [List.append_nil, List.append_nil]
    cases hl : look (numb 0 (blM false ks xs)) (cntM ks) with
    | none => rfl
    | some b =>
      obtain ⟨t, ht, hb⟩ := look_numb _ _ _ _ hl
      rw [List.getElem?_eq_none (by rw [blM_length h1]; omega)] at hb
      cases hb
  have hreach : T.Reach (ctM ks pre [.p .bool] (fun _ => [.p (.b true)]) (svM ks xs 0) ((slsL (svM ks xs 0)).map (vecAt (numb 0 (blM false ks xs) ++ (([] : Mem) ++ [])))) (cntM ks)) (.bool true, none) := by
    unfold ctM
    have hpm := parseM_sv (ks := ks) (us := xs) (j := 0) (bs := blM false ks xs) (rest := []) h1 (fun t b ht => by rw [Nat.zero_add]; exact ht)
    rw [List.append_nil] at hpm
    rw [List.append_nil, List.append_nil, hpm]
    simp only [T.reach_need, T.reach_ret]
    exact ⟨hpre xs h1 h2, rfl⟩
  have hids : idsL ({ tmps := entryTmps (svM ks xs 0) (ks.length + 1), mem := numb 0 (blM false ks xs) ++ (([] : Mem) ++ []), next := cntM ks } : St).has (svM ks xs 0) := svM_ids 0 fun t ht => by
    have hlt : t < (blM false ks xs).length := by rw [blM_length h1]; exact ht
    have := look_numb_some (blM false ks xs) 0 t _ (List.getElem?_eq_getElem hlt)
    simp only [St.has, look_append, this, Option.isSome_some]
  have hc := h.2 ⟨W, ρ0, 0, G, fun _ _ => False, 0⟩ rfl hG hg (svM ks xs 0) (.bool true) none ρ0 _ _ W hrel (svM_wf 0 h1) hids hlk hcnt hreach
  have ha : args = (denL ρ0 (svM ks xs 0)).toArray := by apply Array.ext'; simpa using hargs.symm
  rw [← ha] at hc
  refine hc.mono fun e W' ⟨u, he, hb⟩ => ?_
  subst he
  obtain ⟨ρ', hfin⟩ := hb (some 0) 0 (Nat.le_refl _)
  have hbelow : Below W.heap.size W W' := hfin.below
  have hu : u = .bool true := by
    have htm := hfin.tm
    have hsz : 0 < (denL ρ0 (entryTmps (svM ks xs 0) (ks.length + 1))).toArray.size := by
      simp [denL_eq, entryTmps, svM_length 0 h1]
    have h0 := congrArg (fun z : Array Value => z[0]?) htm
    simp only [Act.put, Eff.on, St.put, setS_eq] at h0
    rw [Array.getElem?_setIfInBounds_self_of_lt hsz] at h0
    have hlen : 0 < (entryTmps (svM ks xs 0) (ks.length + 1)).length := by simp [entryTmps, svM_length 0 h1]
    simp only [denL_eq, List.getElem?_toArray, List.getElem?_map, List.getElem?_set_self hlen, Option.map_some, SV.den, Option.some.injEq] at h0
    exact h0
  subst hu
  have hfn := hs ds hlen2
  refine ⟨_, rfl, ds, [], p ++ [], [], p, [], hW', ?_, ?_, ?_, hbelow.frame _, fun h => by cases h⟩
  · rw [List.append_nil, hfn]
    have hsz : fn.resultTypes.size = 1 := by rw [← Array.length_toList, hres]; rfl
    rw [hres, hsz]
    have : (Value.bool true).resultList 1 = [.bool true] := by simp [Value.resultList]
    rw [this]
    exact trodAll_mk1 (Go.RowKit.shut_bool hbool true)
  · rw [List.append_nil, hfn]
    exact trodAll_stays hl hbelow hrow hA
  · rw [List.append_nil, hfn, hvars]
    rfl
end
end Go.Sx

/- The symbolic layer: other names for blocks; loops with vectors that grow, and that return. -/
namespace Go.Sx
open Go.RowKit (Below)

/-! ### Other names -/
def swp (i j : Nat) (x : Nat) : Nat := match Nat.beq x i with
  | true => j
  | false => match Nat.beq x j with
    | true => i
    | false => x

theorem swp_eq (i j x : Nat) : swp i j x = if x = i then j else if x = j then i else x := by
  unfold swp
  by_cases h : x = i
  · subst h; simp
  · rw [beq_no h, if_neg h]
    by_cases h' : x = j
    · subst h'; simp
    · simp only [beq_no h', if_neg h']

theorem swp_swp (i j x : Nat) : swp i j (swp i j x) = x := by
  simp only [swp_eq]
  repeat' split
  all_goals omega

def SN.ren (f : Nat → Nat) : SN → SN
  | .var i => .var (f i)
  | x => x

mutual
def SV.ren (f : Nat → Nat) : SV → SV
  | .ptr b o x => .ptr (f b) o (x.ren f)
  | .slice b o x l c => .slice (f b) o (x.ren f) (l.ren f) (c.ren f)
  | .agg ps => .agg (renL f ps)
  | .tup ps => .tup (renL f ps)
  | .fn g cs => .fn g (renL f cs)
  | .sl i => .sl (f i)
  | .vptr i o => .vptr (f i) o
  | .mp i => .mp (f i)
  | .lit k n => .lit k n
  | .int k n => .int k n
  | .tt => .tt
  | .ff => .ff
  | .bool b => .bool b
  | .raw v => .raw v
  | .ints k n l => .ints k n l
  | .junk i => .junk i
  | .str l => .str l
def renL (f : Nat → Nat) : List SV → List SV
  | [] => []
  | v :: vs => v.ren f :: renL f vs
end

def Blk.ren (f : Nat → Nat) : Blk → Blk
  | .st o ps => .st o (renL f ps)
  | .dyn o k l => .dyn o k l
  | .vec o e k s n l => .vec o e k s n l
  | .view p s off n => .view (f p) s off n
  | .nz p b => .nz (f p) b
  | .mp a z k v es => .mp a z k v es
  | .gone => .gone

def renM (f : Nat → Nat) : Mem → Mem
  | [] => []
  | (i, b) :: m => (f i, b.ren f) :: renM f m

def Env.ren (ρ : Env) (f : Nat → Nat) : Env := ⟨fun i => ρ.blk (f i), fun i => ρ.off (f i), fun i => ρ.cap (f i), ρ.junk, fun i => ρ.vec (f i)⟩

section
variable {f : Nat → Nat} (hf : ∀ x, f (f x) = x)

theorem SN.den_ren (hf : ∀ x, f (f x) = x) (ρ : Env) (x : SN) : (x.ren f).den (ρ.ren f) = x.den ρ := by cases x <;> simp [SN.ren, SN.den, Env.ren, hf]

mutual
theorem SV.den_ren (hf : ∀ x, f (f x) = x) (ρ : Env) : (v : SV) → (v.ren f).den (ρ.ren f) = v.den ρ
  | .ptr b o x => by simp only [SV.ren, SV.den, SN.den_ren hf]; simp [Env.ren, hf]
  | .slice b o x l c => by simp only [SV.ren, SV.den, SN.den_ren hf]; simp [Env.ren, hf]
  | .agg ps => by simp only [SV.ren, SV.den, cellsL_ren hf ρ ps]
  | .tup ps => by simp only [SV.ren, SV.den, denL_ren hf ρ ps]
  | .fn g cs => by simp only [SV.ren, SV.den, denL_ren hf ρ cs]
  | .sl i => by simp [SV.ren, SV.den, Env.ren, hf]
  | .vptr i o => by simp [SV.ren, SV.den, Env.ren, hf]
  | .mp i => by simp [SV.ren, SV.den, Env.ren, hf]
  | .lit _ _ => by simp [SV.ren, SV.den]
  | .int _ _ => by simp [SV.ren, SV.den]
  | .tt => by simp [SV.ren, SV.den]
  | .ff => by simp [SV.ren, SV.den]
  | .bool _ => by simp [SV.ren, SV.den]
  | .raw _ => by simp [SV.ren, SV.den]
  | .ints _ _ _ => by simp [SV.ren, SV.den]
  | .junk _ => by simp [SV.ren, SV.den, Env.ren]
  | .str _ => by simp [SV.ren, SV.den]
theorem cellsL_ren (hf : ∀ x, f (f x) = x) (ρ : Env) : (l : List SV) → cellsL (ρ.ren f) (renL f l) = cellsL ρ l
  | [] => by simp [renL, cellsL]
  | v :: vs => by simp only [renL, cellsL, SV.den_ren hf ρ v, cellsL_ren hf ρ vs]
theorem denL_ren (hf : ∀ x, f (f x) = x) (ρ : Env) : (l : List SV) → denL (ρ.ren f) (renL f l) = denL ρ l
  | [] => by simp [renL, denL]
  | v :: vs => by simp only [renL, denL, SV.den_ren hf ρ v, denL_ren hf ρ vs]
end

theorem look_ren (hf : ∀ x, f (f x) = x) : ∀ (m : Mem) (i : Nat), look (renM f m) i = (look m (f i)).map (Blk.ren f)
  | [], i => rfl
  | (j, b) :: m, i => by
    simp only [renM, look]
    by_cases h : f j = i
    · subst h; simp [hf]
    · rw [beq_no h, beq_no (fun e => h (by rw [e, hf]))]
      exact look_ren hf m i

theorem look_ren_some (hf : ∀ x, f (f x) = x) {m : Mem} {i : Nat} {b : Blk} (h : look (renM f m) i = some b) : ∃ c, look m (f i) = some c ∧ b = c.ren f := by
  rw [look_ren hf, Option.map_eq_some_iff] at h
  obtain ⟨c, h1, h2⟩ := h
  exact ⟨c, h1, h2.symm⟩

theorem Blk.cells_ren (hf : ∀ x, f (f x) = x) (ρ : Env) (b : Blk) : (b.ren f).cells (ρ.ren f) = b.cells ρ := by
  cases b <;> simp only [Blk.ren, Blk.cells]
  exact cellsL_ren hf ρ _
theorem Blk.own_ren (b : Blk) : (b.ren f).own = b.own := by cases b <;> rfl
theorem Blk.placed_ren (b : Blk) : (b.ren f).placed = b.placed := by cases b <;> rfl

theorem phys_ren (_ : ∀ x, f (f x) = x) (ρ : Env) (i : Nat) (b : Blk) : phys (ρ.ren f) i (b.ren f) = phys ρ (f i) b := by
  cases b <;> simp only [Blk.ren, phys, Env.ren]

theorem SN.ids_ren {p q : Nat → Prop} (h : ∀ x, p x → q (f x)) (x : SN) (hx : x.ids p) : (x.ren f).ids q := by cases x <;> simp [SN.ren, SN.ids] at *; exact h _ hx
theorem SV.ids_ren {p q : Nat → Prop} (h : ∀ x, p x → q (f x)) : (v : SV) → v.ids p → (v.ren f).ids q := by
  intro v
  induction v using SV.rec (motive_2 := fun l => idsL p l → idsL q (renL f l)) with
  | lit | int | tt | ff | bool | raw | ints | junk | str => intro _; simp [SV.ren, SV.ids]
  | sl i => intro hi; simp only [SV.ren, SV.ids] at *; exact h _ hi
  | vptr i o => intro hi; simp only [SV.ren, SV.ids] at *; exact h _ hi
  | mp i => intro hi; simp only [SV.ren, SV.ids] at *; exact h _ hi
  | ptr b o x => intro hi; simp only [SV.ren, SV.ids] at *; exact ⟨h _ hi.1, SN.ids_ren h _ hi.2⟩
  | slice b o x l c => intro hi; simp only [SV.ren, SV.ids] at *; exact ⟨h _ hi.1, SN.ids_ren h _ hi.2.1, SN.ids_ren h _ hi.2.2.1, SN.ids_ren h _ hi.2.2.2⟩
  | agg ps ih => intro hi; simp only [SV.ren, SV.ids] at *; exact ih hi
  | tup ps ih => intro hi; simp only [SV.ren, SV.ids] at *; exact ih hi
  | fn g cs ih => intro hi; simp only [SV.ren, SV.ids] at *; exact ih hi
  | nil => simp [renL, idsL]
  | cons v vs ih ihs => rename_i hi; simp only [renL, idsL] at *; exact ⟨ih hi.1, ihs hi.2⟩
theorem idsL_ren {p q : Nat → Prop} (h : ∀ x, p x → q (f x)) {l : List SV} (hl : idsL p l) : idsL q (renL f l) := by
  induction l with
  | nil => trivial
  | cons v vs ih => exact ⟨SV.ids_ren h v hl.1, ih hl.2⟩
theorem Blk.ids_ren {p q : Nat → Prop} (h : ∀ x, p x → q (f x)) {b : Blk} (hb : b.ids p) : (b.ren f).ids q := by
  cases b with
  | st o ps => exact idsL_ren h hb
  | view p st o n => exact h _ hb
  | nz p b => exact h _ hb
  | _ => trivial

theorem isAtom_ren : (v : SV) → (isAtom v → isAtom (v.ren f)) ∧ (wf v → wf (v.ren f)) := by
  intro v
  induction v using SV.rec (motive_2 := fun l => (atomsL l → atomsL (renL f l)) ∧ (wfL l → wfL (renL f l))) with
  | lit | int | tt | ff | bool | raw | ints | junk | str | sl | vptr | mp | ptr | slice => exact ⟨fun h => by simp_all [SV.ren, isAtom], fun h => by simp_all [SV.ren, wf]⟩
  | agg ps ih => exact ⟨fun h => by simp [isAtom] at h, fun h => by simp only [SV.ren, wf] at *; exact ih.1 h⟩
  | tup ps ih => exact ⟨fun h => by simp [isAtom] at h, fun h => by simp only [SV.ren, wf] at *; exact ih.2 h⟩
  | fn g cs ih => exact ⟨fun h => by simp only [SV.ren, isAtom] at *; exact ih.2 h, fun h => by simp only [SV.ren, wf] at *; exact ih.2 h⟩
  | nil => simp [renL, atomsL, wfL]
  | cons v vs ih ihs => exact ⟨fun h => by simp only [renL, atomsL] at *; exact ⟨ih.1 h.1, ihs.1 h.2⟩, fun h => by simp only [renL, wfL] at *; exact ⟨ih.2 h.1, ihs.2 h.2⟩⟩
theorem renL_eq (l : List SV) : renL f l = l.map (SV.ren f) := by
  induction l with
  | nil => rfl
  | cons v vs ih => simp [renL, ih]
theorem Blk.atoms_ren {b : Blk} (h : b.atoms) : (b.ren f).atoms := by
  cases b with
  | st o ps =>
    intro p hp
    simp only [renL_eq, List.mem_map] at hp
    obtain ⟨q, hq, rfl⟩ := hp
    exact (isAtom_ren q).1 (h q hq)
  | _ => trivial

theorem BlkOk.ren {base : Nat} {ρ : Env} {w : World} {i : Nat} {b : Blk} (hf : ∀ x, f (f x) = x) (h : BlkOk base ρ w (f i) b) : BlkOk base (ρ.ren f) w i (b.ren f) := by
  refine ⟨Blk.atoms_ren h.atoms, ?_, ?_, ?_, ?_⟩
  · rw [Blk.cells_ren hf]; exact h.cell
  · rw [Blk.cells_ren hf, Blk.own_ren]; exact h.mine
  · rw [Blk.own_ren, Blk.placed_ren]; exact h.theirs
  · have hv := h.vec
    cases b with
    | nz p b =>
      simp only [Blk.ren, VecOk, Env.ren, hf]
      exact hv
    | view p st o n =>
      simp only [Blk.ren, VecOk, Env.ren, hf]
      exact hv
    | vec o e k st n l => exact hv
    | mp a z k v es => exact hv
    | _ => trivial

theorem Rel.ren {Γ : Gam} {ρ : Env} {S : St} {a : Act} {w : World} (h : Rel Γ ρ S a w) (hf : ∀ x, f (f x) = x) (hp : ∀ x, Γ.pinned x → f x = x) : Rel Γ (ρ.ren f) ⟨renL f S.tmps, renM f S.mem, S.next⟩ a w := by
  have hhas : ∀ x, S.has x → (⟨renL f S.tmps, renM f S.mem, S.next⟩ : St).has (f x) := fun x hx => by
    simp only [St.has, look_ren hf, hf, Option.isSome_map]; exact hx
  refine ⟨by rw [h.tm, denL_ren hf], h.df.map (Nat.le_refl _) fun D _ hD => ⟨hD.1, fun i b hl hp => by
    obtain ⟨b', e1, rfl⟩ := look_ren_some hf hl
    rw [phys_ren hf] at hp
    exact hD.2 _ b' e1 hp⟩, fun i b hl => ?_, fun i j b c hi hj hne g h1 h2 => ?_, h.below, ⟨fun i hi => ?_, fun i hi => ?_, fun i hi => ?_, fun i hi => ?_⟩, h.nx, fun v hv => ?_, idsL_ren hhas h.idT⟩
  · obtain ⟨c, h1, rfl⟩ := look_ren_some hf hl
    obtain ⟨hok, hid⟩ := h.mem _ c h1
    exact ⟨hok.ren hf, Blk.ids_ren hhas hid⟩
  · obtain ⟨b', e1, rfl⟩ := look_ren_some hf hi
    obtain ⟨c', e2, rfl⟩ := look_ren_some hf hj
    rw [phys_ren hf] at h1 h2
    exact h.dj _ _ b' c' e1 e2 (fun e => hne (by rw [← hf i, ← hf j, e])) g h1 h2
  · simp only [Env.ren]; rw [hp i hi]; exact h.pin.blk i hi
  · simp only [Env.ren]; rw [hp i hi]; exact h.pin.off i hi
  · simp only [Env.ren]; rw [hp i hi]; exact h.pin.cap i hi
  · simp only [Env.ren]; rw [hp i hi]; exact h.pin.vec i hi
  · simp only [renL_eq, List.mem_map] at hv
    obtain ⟨u, hu, rfl⟩ := hv
    exact (isAtom_ren u).2 (h.wfT u hu)
end

/-! ### What a loop's head names -/
inductive Loc where
  | tmp (t : Nat)
  | cell (b i : Nat)

def atLoc (S : St) : Loc → SV
  | .tmp t => getS S.tmps t
  | .cell b i => match look S.mem b with
    | some (.st _ ps) => getS ps i
    | _ => .tt

def setLoc (S : St) (v : SV) : Loc → St
  | .tmp t => { S with tmps := setS S.tmps t v }
  | .cell b i => match look S.mem b with
    | some (.st o ps) => { S with mem := upd S.mem b (.st o (setS ps i v)) }
    | _ => S

/-- A vector at a loop's head: where it is held, its name, its kind. -/
structure HV where
  at_ : Loc
  c : Nat
  e : TypeId
  k : IntKind
  st : Nat

def nameV (h : HV) (S : St) : T St := match atLoc S h.at_ with
  | .sl i => match Nat.blt i 1000000, Nat.blt h.c 1000000 with
    | true, true => match Nat.beq i h.c with
      | true => .ret S
      | false => .ret ⟨renL (swp i h.c) S.tmps, renM (swp i h.c) S.mem, S.next⟩
    | _, _ => .fail "a head's vector: names"
  | .raw (.slice none 0 0) => match look S.mem h.c, Nat.blt h.c 1000000 with
    | none, true => .ret (setLoc { S with mem := upd S.mem h.c (.vec true h.e h.k h.st 0 []) } (.sl h.c) h.at_)
    | _, _ => .fail "a head's vector: the name is taken"
  | _ => .fail "a head's vector: no slice"

theorem getS_mem_or {l : List SV} {i : Nat} : getS l i = .raw undef ∨ getS l i ∈ l := by
  rw [getS_eq]
  simp only [List.getD]
  by_cases h : i < l.length
  · right; simp only [List.getElem?_eq_getElem h, Option.getD_some]; exact List.getElem_mem h
  · left; simp [h]

theorem den_set_same {ρ : Env} {l : List SV} {i : Nat} {v : SV} (h : v.den ρ = (getS l i).den ρ) : denL ρ (setS l i v) = denL ρ l := by
  rw [setS_eq, denL_eq, denL_eq, List.map_set, h, getS_eq]
  by_cases hl : i < l.length
  · simp only [List.getD, List.getElem?_eq_getElem hl, Option.getD_some]
    rw [show (l[i]).den ρ = (l.map (SV.den ρ))[i]'(by simpa using hl) from by simp]
    exact List.set_getElem_self _
  · rw [List.set_eq_of_length_le (by simpa using hl)]

theorem cells_set_same {ρ : Env} : ∀ {l : List SV} {i : Nat} {v : SV}, v.den ρ = (getS l i).den ρ → cellsL ρ (setS l i v) = cellsL ρ l
  | [], i, v, _ => by simp [setS]
  | x :: l, 0, v, h => by simp only [getS] at h; simp [setS, cellsL, h]
  | x :: l, i + 1, v, h => by
    simp only [getS] at h
    simp only [setS, cellsL, cells_set_same h]

theorem nameV_sound {Γ : Gam} {ρ : Env} {S S' : St} {a : Act} {w : World} (h0 : Γ.n0 = 0) (h : Rel Γ ρ S a w) {v : HV} (hr : T.Reach (nameV v S) S') : ∃ ρ', Rel Γ ρ' S' a w := by
  unfold nameV at hr
  split at hr
  · rename_i i hi
    split at hr
    · rename_i h1 h2
      have h1 : i < 1000000 := Nat.le_of_ble_eq_true h1
      have h2 : v.c < 1000000 := Nat.le_of_ble_eq_true h2
      split at hr
      · rw [T.reach_ret] at hr; subst hr; exact ⟨ρ, h⟩
      · rw [T.reach_ret] at hr; subst hr
        refine ⟨_, h.ren (swp_swp _ _) fun x hx => ?_⟩
        rcases hx with hx | hx
        · omega
        · rw [swp_eq, if_neg (by omega), if_neg (by omega)]
    · exact (T.reach_fail hr).elim
  · rename_i hnil
    split at hr
    · rename_i h1 h2
      have h2 : v.c < 1000000 := Nat.le_of_ble_eq_true h2
      rw [T.reach_ret] at hr
      have hni : ¬ Γ.pinned v.c := by
        rintro (hp | hp)
        · omega
        · omega
      have ev : (ρ.set v.c 0 0 0 (.slice none 0 0)).vec v.c = .slice none 0 0 := if_pos rfl
      have hch := h.change (i := v.c) (o := none) (b := .vec true v.e v.k v.st 0 []) (blk := 0) (off := 0) (cap := 0) (vec := .slice none 0 0) (row := none) (w' := w) ⟨rfl, rfl, rfl, Nat.le_refl _, fun _ _ _ => rfl⟩ (fun g hg => by cases hg) (fun o' ho => by cases ho) h1 hni
        ⟨trivial, fun j u hj => (by cases hj), fun hh => (by cases hh), fun _ hh => (by cases hh), by
          show VecOwm w _ v.e v.st ((ρ.set v.c 0 0 0 (.slice none 0 0)).vec v.c) 0 []
          rw [ev]; exact .inl (.inl ⟨none, rfl, rfl, rfl⟩)⟩ trivial (fun g hg => by
          simp only [phys, ev] at hg; cases hg) S.next h.nx
      simp only [goneM] at hch
      generalize hρ : ρ.set v.c 0 0 0 (.slice none 0 0) = ρ1 at hch ev
      have hd : (SV.sl v.c).den ρ1 = (SV.raw (.slice none 0 0)).den ρ1 := by simp only [SV.den, ev]; rfl
      have hhas : ({ S with mem := upd S.mem v.c (.vec true v.e v.k v.st 0 []) } : St).has v.c := by simp [St.has, look_upd]
      refine ⟨ρ1, ?_⟩
      subst hr
      cases hloc : v.at_ with
      | tmp t =>
        rw [hloc] at hnil
        simp only [atLoc] at hnil
        have hden : denL ρ1 (setS S.tmps t (.sl v.c)) = denL ρ1 S.tmps := den_set_same (by rw [hnil]; exact hd)
        refine ⟨by rw [hch.tm]; simp only [setLoc, hden], hch.df, hch.mem, hch.dj, hch.below, hch.pin, hch.nx, fun u hu => ?_, idsL_iff.2 fun u hu => ?_⟩
        · simp only [setLoc, setS_eq] at hu
          rcases List.mem_or_eq_of_mem_set hu with hu | rfl
          · exact hch.wfT u hu
          · simp only [wf]
        · simp only [setLoc, setS_eq] at hu
          rcases List.mem_or_eq_of_mem_set hu with hu | rfl
          · exact idsL_iff.1 hch.idT u hu
          · exact hhas
      | cell b i =>
        rw [hloc] at hnil
        simp only [atLoc] at hnil
        split at hnil
        · rename_i o ps hb
          have hbc : b ≠ v.c := fun e => by rw [e, h1] at hb; cases hb
          have hb2 : look (upd S.mem v.c (.vec true v.e v.k v.st 0 [])) b = some (.st o ps) := by rw [look_upd, if_neg (fun e => hbc e.symm)]; exact hb
          simp only [setLoc, hb2]
          obtain ⟨hok, hid⟩ := hch.mem b _ hb2
          have hcs : cellsL ρ1 (setS ps i (.sl v.c)) = cellsL ρ1 ps := cells_set_same (by rw [hnil]; exact hd)
          have hhas2 : ∀ j, ({ S with mem := upd S.mem v.c (.vec true v.e v.k v.st 0 []) } : St).has j → ({ S with mem := upd (upd S.mem v.c (.vec true v.e v.k v.st 0 [])) b (.st o (setS ps i (.sl v.c))) } : St).has j := fun j hj => by
            simp only [St.has, look_upd] at *
            split
            · rfl
            · exact hj
          have hK : ∀ D ob, Keep ρ1 (upd S.mem v.c (.vec true v.e v.k v.st 0 [])) w D ob → Keep ρ1 (upd (upd S.mem v.c (.vec true v.e v.k v.st 0 [])) b (.st o (setS ps i (.sl v.c)))) w D ob := fun D _ hD => ⟨hD.1, fun j c hj hp => by
            rw [look_upd] at hj
            split at hj
            · rename_i e; subst e
              cases hj
              exact hD.2 b _ hb2 hp
            · exact hD.2 j c hj hp⟩
          refine ⟨hch.tm, hch.df.map (Nat.le_refl _) hK, fun j c hl => ?_, fun j k c d hj hk hne g hp hq => ?_, hch.below, hch.pin, hch.nx, hch.wfT, idsL_mono hhas2 hch.idT⟩
          · rw [look_upd] at hl
            split at hl
            · rename_i e; subst e
              cases hl
              refine ⟨⟨fun p hp => ?_, ?_, ?_, hok.theirs, trivial⟩, idsL_iff.2 fun u hu => ?_⟩
              · rw [setS_eq] at hp
                rcases List.mem_or_eq_of_mem_set hp with hp | rfl
                · exact hok.atoms p hp
                · simp only [isAtom]
              · simp only [Blk.cells, hcs]; exact hok.cell
              · simp only [Blk.cells, hcs]; exact hok.mine
              · rw [setS_eq] at hu
                rcases List.mem_or_eq_of_mem_set hu with hu | rfl
                · exact SV.ids_mono hhas2 u (idsL_iff.1 hid u hu)
                · exact hhas2 _ hhas
            · obtain ⟨q1, q2⟩ := hch.mem j c hl
              exact ⟨q1, Blk.ids_mono hhas2 q2⟩
          · have fix : ∀ j c, look (upd (upd S.mem v.c (.vec true v.e v.k v.st 0 [])) b (.st o (setS ps i (.sl v.c)))) j = some c → ∃ c', look (upd S.mem v.c (.vec true v.e v.k v.st 0 [])) j = some c' ∧ phys ρ1 j c' = phys ρ1 j c := fun j c hj => by
              rw [look_upd] at hj
              split at hj
              · rename_i e; subst e; cases hj; exact ⟨_, hb2, by cases o <;> rfl⟩
              · exact ⟨c, hj, rfl⟩
            obtain ⟨c', e1, e2⟩ := fix j c hj
            obtain ⟨d', e3, e4⟩ := fix k d hk
            exact hch.dj j k c' d' e1 e3 hne g (e2.trans hp) (e4.trans hq)
        · cases hnil
    · exact (T.reach_fail hr).elim
  · exact (T.reach_fail hr).elim
end Go.Sx

/- The symbolic layer: loops as rules, with vectors that grow; a round may return. -/
namespace Go.Sx
open Go.RowKit (Below)

/-- What is kept at a loop's head: the vectors' names; of the slots; which blocks; the next block's name. -/
structure Fh where
  hv : List HV
  ks : List Kp
  ids : List Nat
  nx : Nat

def nameL : List HV → St → T St
  | [], S => .ret S
  | v :: vs, S => (nameV v S).bind (nameL vs)

def pickM (m : Mem) : List Nat → Option Mem
  | [] => some []
  | i :: is => match look m i, pickM m is with
    | some b, some r => some ((i, b) :: r)
    | _, _ => none

/-- Globals are kept in any case. -/
def globM : Mem → Mem
  | [] => []
  | (i, b) :: m => match Nat.blt i 1000000 with
    | true => globM m
    | false => (i, b) :: globM m

def bring (f : Fh) (S : St) : T St := (nameL f.hv S).bind fun S1 => match pickM S1.mem f.ids with
  | some m => ifT (njK f.ks (softL f.ks S1.tmps) && memNj (m ++ globM S1.mem) (m ++ globM S1.mem) && keysOk S1.mem && idsLB (m ++ globM S1.mem) (junkL f.ks 0 (softL f.ks S1.tmps)) && memIds (m ++ globM S1.mem) (m ++ globM S1.mem))
    (.ret ⟨junkL f.ks 0 (softL f.ks S1.tmps), m ++ globM S1.mem, f.nx⟩)
  | none => .fail "a head's blocks"

theorem nameL_sound {Γ : Gam} (h0 : Γ.n0 = 0) : ∀ {vs : List HV} {ρ : Env} {S S' : St} {a : Act} {w : World}, Rel Γ ρ S a w → T.Reach (nameL vs S) S' → ∃ ρ', Rel Γ ρ' S' a w
  | [], ρ, S, S', a, w, h, hr => by
    simp only [nameL, T.reach_ret] at hr; subst hr; exact ⟨ρ, h⟩
  | v :: vs, ρ, S, S', a, w, h, hr => by
    simp only [nameL, T.reach_bind] at hr
    obtain ⟨S1, h1, h2⟩ := hr
    obtain ⟨ρ1, hr1⟩ := nameV_sound h0 h h1
    exact nameL_sound h0 hr1 h2

theorem pickM_look {m : Mem} : ∀ {is : List Nat} {r : Mem}, pickM m is = some r → ∀ x ∈ r, look m x.1 = some x.2
  | [], r, h, x, hx => by simp [pickM] at h; subst h; cases hx
  | i :: is, r, h, x, hx => by
    simp only [pickM] at h
    split at h
    · rename_i b r' h1 h2
      cases h
      rcases List.mem_cons.1 hx with rfl | hx
      · exact h1
      · exact pickM_look h2 x hx
    · cases h

theorem globM_mem : ∀ {m : Mem} {x : Nat × Blk}, x ∈ globM m → x ∈ m
  | [], x, h => by cases h
  | (i, b) :: m, x, h => by
    simp only [globM] at h
    split at h
    · exact List.mem_cons_of_mem _ (globM_mem h)
    · rcases List.mem_cons.1 h with rfl | h
      · simp
      · exact List.mem_cons_of_mem _ (globM_mem h)

theorem memW_of (m : Mem) : ∀ {l : Mem}, (∀ x ∈ l, look m x.1 = some x.2) → (∀ m', memNj m' l = true → memW m l)
  | [], _, _, _ => trivial
  | (i, b) :: r, hl, m', h => by
    simp only [memNj, Bool.and_eq_true] at h
    exact ⟨hl (i, b) (by simp), h.1, memW_of m (fun x hx => hl x (by simp [hx])) m' h.2⟩

theorem bring_sound {Γ : Gam} (h0 : Γ.n0 = 0) {ρ : Env} {S S' : St} {a : Act} {w : World} (h : Rel Γ ρ S a w) {f : Fh} (hr : T.Reach (bring f S) S') : ∃ ρ', Rel Γ ρ' S' a w := by
  unfold bring at hr
  rw [T.reach_bind] at hr
  obtain ⟨S1, h1, h2⟩ := hr
  obtain ⟨ρ1, hr1⟩ := nameL_sound h0 h h1
  split at h2
  · rename_i m hm
    obtain ⟨hk, h2⟩ := ifT_reach h2
    rw [T.reach_ret] at h2
    subst h2
    simp only [Bool.and_eq_true] at hk
    obtain ⟨⟨⟨⟨k1, k2⟩, k3⟩, k4⟩, k5⟩ := hk
    have hl : ∀ x ∈ m ++ globM S1.mem, look S1.mem x.1 = some x.2 := fun x hx => by
      rcases List.mem_append.1 hx with hx | hx
      · exact pickM_look hm x hx
      · exact look_key (globM_mem hx) k3
    exact (hr1.soft f.ks).weaken (S' := ⟨junkL f.ks 0 (softL f.ks S1.tmps), m ++ globM S1.mem, f.nx⟩) ⟨slotsW_junkL f.ks 0 _ k1, memW_of _ hl _ k2, k4, k5⟩ (by rw [h0]; exact Nat.zero_le _)
  · exact (T.reach_fail h2).elim

/-- What a round comes to. -/
def endV (ks js rs : Fh) (t : T (Ex × St)) : T (Ex × St) := t.bind fun r => match r.1 with
  | .normal => (bring ks r.2).bind fun S => .ret (.normal, S)
  | .exit j => (bring js r.2).bind fun S => .ret (.exit j, S)
  | .ret => (bring rs r.2).bind fun S => .ret (.ret, S)

def loopV (ks : Fh) (start : St) (b : Bool) (out out' : Ex × St) (S : St) : T (Ex × St) := (bring ks S).bind fun S' => .need (S' = start) (.ite b (.ret out) (.ret out'))

def afterX (id : Nat) : Ex → Ex
  | .exit j => match Nat.beq j id with
    | true => .normal
    | false => .exit j
  | e => e

theorem afterX_to (id : Nat) (e : Ex) (he : e ≠ .normal) : (afterX id e).to = (match e.to with | .exit j => if j = id then Exit.normal else .exit j | x => x) := by
  cases e with
  | normal => exact absurd rfl he
  | exit j =>
    simp only [afterX, Ex.to]
    by_cases h : j = id
    · subst h; simp []
    · simp [beq_no h, h]
  | ret => rfl

section
variable {P : Program} {Γ : Gam} {cx : Cx} {draw : Array Oper → St → T St} {bl : Blocks}

/-- **A loop as a rule.** -/
theorem loop_ruleV (hc : CxOk P Γ.G cx) (hg : GlobOk Γ) (h0 : Γ.G Γ.w0) (hn0 : Γ.n0 = 0) (hd : DrawOk P Γ draw) {id : Nat} {body : Code} (hbl : BlocksIn P Γ bl body) {ι : Type} (Inv : ι → St) (μ : ι → Nat) (ok : ι → Prop) (b : Bool) (out out' : Ex × St) (fuel : Nat) (ks js rs : Fh)
    (round : ∀ i, ok i → (endV ks js rs (exec cx draw bl fuel body (Inv i))).good fun r => match r.1 with
      | .normal => ∃ i', ok i' ∧ r.2 = Inv i' ∧ μ i' < μ i
      | .exit j => (afterX id (.exit j), r.2) = cond b out out'
      | .ret => (Ex.ret, r.2) = cond b out out') (i : ι) (hi : ok i) :
    ∀ S e S', T.Reach (loopV ks (Inv i) b out out' S) (e, S') → Comes P Γ (.block id (.loop body)) S e S' := by
  have key : ∀ (n : Nat) (i : ι), μ i ≤ n → ok i → ∀ ρ a w, Rel Γ ρ (Inv i) a w → Code.rounds P body (Exit.inBlock id fun x a' w' => x = (cond b out out').1.to ∧ ∃ ρ', Rel Γ ρ' (cond b out out').2 a' w') (n + 1) a w := by
    intro n
    induction n with
    | zero =>
      intro i hle hi ρ a w hrel
      rw [rounds_succ]
      have hround := round i hi
      unfold endV at hround
      rw [T.good_bind] at hround
      obtain ⟨⟨e, S1⟩, hr, hq⟩ := T.reach_of_good hround
      refine wp_mono ((exec_sound hc hg h0 hd fuel).1 body _ S1 e hbl hr ρ a w hrel) fun x a' w' ⟨hx, ρ', hr'⟩ => ?_
      subst hx
      cases e with
      | normal =>
        simp only [T.good_bind] at hq
        obtain ⟨S2, -, i', -, -, hlt⟩ := T.reach_of_good hq
        omega
      | exit j =>
        simp only [T.good_bind] at hq
        obtain ⟨S2, hb, hq⟩ := T.reach_of_good hq
        have hq : (afterX id (.exit j), S2) = cond b out out' := hq
        obtain ⟨ρ2, hr2⟩ := bring_sound hn0 hr' hb
        simp only [Ex.to, Exit.then, Exit.inBlock]
        rw [← hq]
        by_cases hj : j = id
        · subst hj
          rw [if_pos rfl]
          exact ⟨by simp [afterX], ρ2, hr2⟩
        · rw [if_neg hj]
          exact ⟨by simp [afterX, beq_no hj], ρ2, hr2⟩
      | ret =>
        simp only [T.good_bind] at hq
        obtain ⟨S2, hb, hq⟩ := T.reach_of_good hq
        have hq : (Ex.ret, S2) = cond b out out' := hq
        obtain ⟨ρ2, hr2⟩ := bring_sound hn0 hr' hb
        simp only [Ex.to, Exit.then, Exit.inBlock]
        rw [← hq]
        exact ⟨rfl, ρ2, hr2⟩
    | succ n ih =>
      intro i hle hi ρ a w hrel
      rw [rounds_succ]
      have hround := round i hi
      unfold endV at hround
      rw [T.good_bind] at hround
      obtain ⟨⟨e, S1⟩, hr, hq⟩ := T.reach_of_good hround
      refine wp_mono ((exec_sound hc hg h0 hd fuel).1 body _ S1 e hbl hr ρ a w hrel) fun x a' w' ⟨hx, ρ', hr'⟩ => ?_
      subst hx
      cases e with
      | normal =>
        simp only [T.good_bind] at hq
        obtain ⟨S2, hb, i', hi', he, hlt⟩ := T.reach_of_good hq
        obtain ⟨ρ2, hr2⟩ := bring_sound hn0 hr' hb
        simp only at he
        rw [he] at hr2
        exact ih i' (by omega) hi' ρ2 a' w' hr2
      | exit j =>
        simp only [T.good_bind] at hq
        obtain ⟨S2, hb, hq⟩ := T.reach_of_good hq
        have hq : (afterX id (.exit j), S2) = cond b out out' := hq
        obtain ⟨ρ2, hr2⟩ := bring_sound hn0 hr' hb
        simp only [Ex.to, Exit.then, Exit.inBlock]
        rw [← hq]
        by_cases hj : j = id
        · subst hj
          rw [if_pos rfl]
          exact ⟨by simp [afterX], ρ2, hr2⟩
        · rw [if_neg hj]
          exact ⟨by simp [afterX, beq_no hj], ρ2, hr2⟩
      | ret =>
        simp only [T.good_bind] at hq
        obtain ⟨S2, hb, hq⟩ := T.reach_of_good hq
        have hq : (Ex.ret, S2) = cond b out out' := hq
        obtain ⟨ρ2, hr2⟩ := bring_sound hn0 hr' hb
        simp only [Ex.to, Exit.then, Exit.inBlock]
        rw [← hq]
        exact ⟨rfl, ρ2, hr2⟩
  intro S e S' hreach ρ a w hrel
  unfold loopV at hreach
  rw [T.reach_bind] at hreach
  obtain ⟨S1, hb, hreach⟩ := hreach
  rw [T.reach_need] at hreach
  obtain ⟨hs, hreach⟩ := hreach
  have hout : (e, S') = cond b out out' := by
    rw [T.reach_ite] at hreach
    rcases hreach with ⟨rfl, hr⟩ | ⟨rfl, hr⟩
    · rw [T.reach_ret] at hr; exact hr
    · rw [T.reach_ret] at hr; exact hr
  obtain ⟨ρ2, hr2⟩ := bring_sound hn0 hrel hb
  rw [hs] at hr2
  have := wp_block (wp_loop_rounds (μ i + 1) (key (μ i) i (Nat.le_refl _) hi ρ2 a w hr2))
  rw [← hout] at this
  exact this
end
end Go.Sx

/- The symbolic layer: a loop whose first head differs from the later ones. -/
namespace Go.Sx
open Go.RowKit (Below)

section
variable {P : Program} {Γ : Gam} {cx : Cx} {draw : Array Oper → St → T St} {bl : Blocks}

/-- **A loop as a rule, whose first head is named in its own way.** -/
theorem loop_ruleW (hc : CxOk P Γ.G cx) (hg : GlobOk Γ) (h0 : Γ.G Γ.w0) (hn0 : Γ.n0 = 0) (hd : DrawOk P Γ draw) {id : Nat} {body : Code} (hbl : BlocksIn P Γ bl body) {ι : Type} (Inv : ι → St) (μ : ι → Nat) (ok : ι → Prop) (b : Bool) (out out' : Ex × St) (fuel : Nat) (k0 ks js rs : Fh)
    (round : ∀ i, ok i → (endV ks js rs (exec cx draw bl fuel body (Inv i))).good fun r => match r.1 with
      | .normal => ∃ i', ok i' ∧ r.2 = Inv i' ∧ μ i' < μ i
      | .exit j => (afterX id (.exit j), r.2) = cond b out out'
      | .ret => (Ex.ret, r.2) = cond b out out') (i : ι) (hi : ok i) :
    ∀ S e S', T.Reach (loopV k0 (Inv i) b out out' S) (e, S') → Comes P Γ (.block id (.loop body)) S e S' := by
  have key : ∀ (n : Nat) (i : ι), μ i ≤ n → ok i → ∀ ρ a w, Rel Γ ρ (Inv i) a w → Code.rounds P body (Exit.inBlock id fun x a' w' => x = (cond b out out').1.to ∧ ∃ ρ', Rel Γ ρ' (cond b out out').2 a' w') (n + 1) a w := by
    intro n
    induction n with
    | zero =>
      intro i hle hi ρ a w hrel
      rw [rounds_succ]
      have hround := round i hi
      unfold endV at hround
      rw [T.good_bind] at hround
      obtain ⟨⟨e, S1⟩, hr, hq⟩ := T.reach_of_good hround
      refine wp_mono ((exec_sound hc hg h0 hd fuel).1 body _ S1 e hbl hr ρ a w hrel) fun x a' w' ⟨hx, ρ', hr'⟩ => ?_
      subst hx
      cases e with
      | normal =>
        simp only [T.good_bind] at hq
        obtain ⟨S2, -, i', -, -, hlt⟩ := T.reach_of_good hq
        omega
      | exit j =>
        simp only [T.good_bind] at hq
        obtain ⟨S2, hb, hq⟩ := T.reach_of_good hq
        have hq : (afterX id (.exit j), S2) = cond b out out' := hq
        obtain ⟨ρ2, hr2⟩ := bring_sound hn0 hr' hb
        simp only [Ex.to, Exit.then, Exit.inBlock]
        rw [← hq]
        by_cases hj : j = id
        · subst hj
          rw [if_pos rfl]
          exact ⟨by simp [afterX], ρ2, hr2⟩
        · rw [if_neg hj]
          exact ⟨by simp [afterX, beq_no hj], ρ2, hr2⟩
      | ret =>
        simp only [T.good_bind] at hq
        obtain ⟨S2, hb, hq⟩ := T.reach_of_good hq
        have hq : (Ex.ret, S2) = cond b out out' := hq
        obtain ⟨ρ2, hr2⟩ := bring_sound hn0 hr' hb
        simp only [Ex.to, Exit.then, Exit.inBlock]
        rw [← hq]
        exact ⟨rfl, ρ2, hr2⟩
    | succ n ih =>
      intro i hle hi ρ a w hrel
      rw [rounds_succ]
      have hround := round i hi
      unfold endV at hround
      rw [T.good_bind] at hround
      obtain ⟨⟨e, S1⟩, hr, hq⟩ := T.reach_of_good hround
      refine wp_mono ((exec_sound hc hg h0 hd fuel).1 body _ S1 e hbl hr ρ a w hrel) fun x a' w' ⟨hx, ρ', hr'⟩ => ?_
      subst hx
      cases e with
      | normal =>
        simp only [T.good_bind] at hq
        obtain ⟨S2, hb, i', hi', he, hlt⟩ := T.reach_of_good hq
        obtain ⟨ρ2, hr2⟩ := bring_sound hn0 hr' hb
        simp only at he
        rw [he] at hr2
        exact ih i' (by omega) hi' ρ2 a' w' hr2
      | exit j =>
        simp only [T.good_bind] at hq
        obtain ⟨S2, hb, hq⟩ := T.reach_of_good hq
        have hq : (afterX id (.exit j), S2) = cond b out out' := hq
        obtain ⟨ρ2, hr2⟩ := bring_sound hn0 hr' hb
        simp only [Ex.to, Exit.then, Exit.inBlock]
        rw [← hq]
        by_cases hj : j = id
        · subst hj
          rw [if_pos rfl]
          exact ⟨by simp [afterX], ρ2, hr2⟩
        · rw [if_neg hj]
          exact ⟨by simp [afterX, beq_no hj], ρ2, hr2⟩
      | ret =>
        simp only [T.good_bind] at hq
        obtain ⟨S2, hb, hq⟩ := T.reach_of_good hq
        have hq : (Ex.ret, S2) = cond b out out' := hq
        obtain ⟨ρ2, hr2⟩ := bring_sound hn0 hr' hb
        simp only [Ex.to, Exit.then, Exit.inBlock]
        rw [← hq]
        exact ⟨rfl, ρ2, hr2⟩
  intro S e S' hreach ρ a w hrel
  unfold loopV at hreach
  rw [T.reach_bind] at hreach
  obtain ⟨S1, hb, hreach⟩ := hreach
  rw [T.reach_need] at hreach
  obtain ⟨hs, hreach⟩ := hreach
  have hout : (e, S') = cond b out out' := by
    rw [T.reach_ite] at hreach
    rcases hreach with ⟨rfl, hr⟩ | ⟨rfl, hr⟩
    · rw [T.reach_ret] at hr; exact hr
    · rw [T.reach_ret] at hr; exact hr
  obtain ⟨ρ2, hr2⟩ := bring_sound hn0 hrel hb
  rw [hs] at hr2
  have := wp_block (wp_loop_rounds (μ i + 1) (key (μ i) i (Nat.le_refl _) hi ρ2 a w hr2))
  rw [← hout] at this
  exact this
end
end Go.Sx

/- The symbolic layer: operations in a round of a range over a function. -/
namespace Go.Sx
open Go.RowKit (Below)

def notDefer (o : Oper) : Bool := match o.op with
  | .defer _ => false
  | _ => true
theorem notDefer_spec {o : Oper} (h : notDefer o = true) : ∀ c, o.op ≠ .defer c := fun c e => by unfold notDefer at h; rw [e] at h; cases h

theorem rowsIn_round {n l : Nat} {P : Program} {row : String} {args : Array Value} {w : World} {R : Value → World → Prop} (h : Rows P row args w R) : RowsIn (Fence.wide.inRound l) n P row args w R :=
  fun c cs _ => let ⟨v, w', r, s⟩ := h c cs; ⟨v, w', r, stepsIn_wide.2 s⟩

theorem opIn_of_wp {P : Program} {o : Oper} {a : Act} {w : World} {next : Act → World → Prop} {Q : Exit → Act → World → Prop} {l n : Nat} (hd : notDefer o = true) (h : o.wp P a w next Q) : o.wpIn (Fence.wide.inRound l) n P a w next Q := by
  unfold Oper.wp at h
  refine ⟨fun _ _ => trivial, ?_⟩
  rw [Oper.semAt_eq _ _ _ (notDefer_spec hd)]
  generalize (execOp a.eval o).run P w = res at h ⊢
  unfold Oper.upon at h
  split at h
  · exact h
  · exact h
  · exact h
  · exact ⟨fun hc => (by cases hc), CallsIn.inRound l (callsIn_wide.2 h)⟩
  · exact ⟨fun hc => (by cases hc), rowsIn_round h⟩
  · exact h
  · exact h.elim

section
variable {P : Program} {Γ : Gam} {cx : Cx}
theorem runOpsIn_sound (hc : CxOk P Γ.G cx) (hg : GlobOk Γ) (h0 : Γ.G Γ.w0) {ops : Array Oper} {Q : Exit → Act → World → Prop} {l n : Nat} : ∀ (ls : List Oper) {ρ : Env} {S S' : St} {a : Act} {w : World}, ls.all notDefer = true → Rel Γ ρ S a w → T.Reach (runOps cx ops ls S) S' →
    (∀ ρ' a' w', Rel Γ ρ' S' a' w' → Q .normal a' w') → wpListIn (Fence.wide.inRound l) n P ops Q ls a w
  | [], ρ, S, S', a, w, _, h, hr, hQ => by
    simp only [runOps, T.reach_ret] at hr
    subst hr
    exact hQ ρ a w h
  | o :: rest, ρ, S, S', a, w, hd, h, hr, hQ => by
    simp only [List.all_cons, Bool.and_eq_true] at hd
    simp only [runOps, T.reach_bind] at hr
    obtain ⟨S0, h0', S1, h1, h2⟩ := hr
    have h := (refS_alike h0').symm.rel h
    unfold wpListIn
    rcases opS_cases h h1 with ⟨hw, hs⟩ | ⟨hw, rfl⟩
    · rw [if_pos hw]
      exact opIn_of_wp hd.1 (stepK_sound hc hg h0 h hs fun ρ' a' w' hrel => runOpsIn_sound hc hg h0 rest hd.2 hrel h2 hQ)
    · rw [if_neg (by rw [hw]; simp)]
      refine ⟨fun _ _ => trivial, ?_⟩
      have := h.put o.dst (v := .raw undef) (by simp only [wf]) (by simp only [SV.ids])
      simp only [SV.den] at this
      exact runOpsIn_sound hc hg h0 rest hd.2 this h2 hQ
end

/-! ### A round: its own frame, the memory in common -/
/-- What is fixed while a round runs. -/
def Gam.round (Γ : Gam) (ρ : Env) (S : St) (W : World) : Gam := ⟨Γ.w0, ρ, S.next, Γ.G, fun D o => Keep ρ S.mem W D o, W.heap.size⟩

theorem enterRound {Γ : Gam} {ρ : Env} {S : St} {a : Act} {W : World} (hrel : Rel Γ ρ S a W) (hg : GlobOk Γ) : GlobOk (Γ.round ρ S W) ∧ Rel (Γ.round ρ S W) ρ S { a with defers := [] } W := by
  refine ⟨fun g => ?_, ⟨hrel.tm, .none (fun _ _ h => h) (Nat.le_refl _), hrel.mem, hrel.dj, hrel.below, ⟨fun _ _ => rfl, fun _ _ => rfl, fun _ _ => rfl, fun _ _ => rfl⟩, Nat.le_refl _, hrel.wfT, hrel.idT⟩⟩
  obtain ⟨e1, e2⟩ := hg g
  have p1 := hrel.pin.blk (gid g) (.inr (by simp [gid]))
  have p2 := hrel.pin.off (gid g) (.inr (by simp [gid]))
  exact ⟨p1.trans e1, p2.trans e2⟩

def roundOkB (S S2 : St) : Bool := namesOk S.next S.mem && memNj S2.mem S2.mem && keysOk S2.mem && idsLB S2.mem S.tmps && memIds S2.mem S2.mem

theorem leaveRound {Γ : Gam} {ρ ρ' : Env} {S S2 : St} {a a' : Act} {W W' : World} (hrel : Rel Γ ρ S a W) (hr' : Rel (Γ.round ρ S W) ρ' S2 a' W') (hk : roundOkB S S2 = true) :
    Rel Γ (ρ'.withJunk ρ.junk) ⟨S.tmps, S2.mem, S2.next⟩ a W' ∧ (∀ i, S.has i → (ρ'.withJunk ρ.junk).blk i = ρ.blk i ∧ (ρ'.withJunk ρ.junk).off i = ρ.off i ∧ (ρ'.withJunk ρ.junk).vec i = ρ.vec i) ∧ (∀ D o, Keep ρ S.mem W D o → W'.heap[D]? = some o) ∧ W.heap.size ≤ W'.heap.size := by
  simp only [roundOkB, Bool.and_eq_true] at hk
  obtain ⟨⟨⟨⟨k1, k3⟩, k4⟩, k5⟩, k6⟩ := hk
  have hpin : ∀ i, S.has i → (Γ.round ρ S W).pinned i := fun i hi => namesOk_spec k1 i hi
  have hag : Agree S.has ρ (ρ'.withJunk ρ.junk) :=
    ⟨fun i hi => hr'.pin.blk i (hpin i hi), fun i hi => hr'.pin.off i (hpin i hi), fun i hi => hr'.pin.cap i (hpin i hi), fun i hi => hr'.pin.vec i (hpin i hi), rfl⟩
  have hcells : ∀ i b, look S2.mem i = some b → b.cells (ρ'.withJunk ρ.junk) = b.cells ρ' := fun i b hl => Blk.cells_junk ρ' ρ.junk (memNj_look k3 i b hl)
  refine ⟨⟨?_, hrel.df.map hr'.df.2.2 fun D o hD => ⟨(hr'.df.2.1 D o hD).1, fun i b hl hp => by rw [phys_junk] at hp; exact (hr'.df.2.1 D o hD).2 i b hl hp⟩, ?_, ?_, hr'.below, ?_, Nat.le_trans hrel.nx hr'.nx, hrel.wfT, idsLB_spec _ k5⟩,
    fun i hi => ⟨hag.blk i hi, hag.off i hi, hag.vec i hi⟩, fun D o hD => (hr'.df.2.1 D o hD).1, hr'.df.2.2⟩
  · show a.tmps = (denL (ρ'.withJunk ρ.junk) S.tmps).toArray
    rw [hrel.tm, denL_agree hag _ hrel.idT]
  · intro i b hl
    obtain ⟨hok, hi⟩ := hr'.mem i b hl
    have hcc := hcells i b hl
    refine ⟨⟨hok.atoms, ?_, ?_, hok.theirs, hok.vec⟩, memIds_look k6 i b hl⟩
    · rw [hcc]; exact hok.cell
    · rw [hcc]; exact hok.mine
  · intro i j b c' hi hj hne g hp hq
    rw [phys_junk] at hp hq
    exact hr'.dj i j b c' hi hj hne g hp hq
  · have hmono : ∀ i, Γ.pinned i → (Γ.round ρ S W).pinned i := fun i hi => by
      rcases hi with hi | hi
      · exact .inl (Nat.lt_of_lt_of_le hi hrel.nx)
      · exact .inr hi
    exact ⟨fun i hi => (hr'.pin.blk i (hmono i hi)).trans (hrel.pin.blk i hi), fun i hi => (hr'.pin.off i (hmono i hi)).trans (hrel.pin.off i hi), fun i hi => (hr'.pin.cap i (hmono i hi)).trans (hrel.pin.cap i hi), fun i hi => (hr'.pin.vec i (hmono i hi)).trans (hrel.pin.vec i hi)⟩

/-- A block that is told of by nothing changes. -/
theorem Rel.other {Γ : Gam} {ρ : Env} {S : St} {a : Act} {w w' : World} (h : Rel Γ ρ S a w) {row : Option Nat} {B : Nat} (hg : w.grownBy w' row) (hB : Γ.w0.heap.size ≤ B) (hr : ∀ r, row = some r → B ≤ r) (hph : ∀ i b g, look S.mem i = some b → phys ρ i b = some g → g < B)
    (hkB : ∀ D o, Γ.kp D o → D < B) (hdB : ∀ D, markOf D ∈ a.defers → D < B) : Rel Γ ρ S a w' := by
  have hK : ∀ D o, D < B → Keep ρ S.mem w D o → Keep ρ S.mem w' D o := fun D o hlt hk => ⟨(hg.block D (Array.getElem?_eq_some_iff.1 hk.1).1 (fun e => by have := hr D e.symm; omega)).trans hk.1, hk.2⟩
  refine ⟨h.tm, ?_, fun i b hl => ⟨(h.mem i b hl).1.grown hg fun g e => ⟨Nat.le_trans hB (hr g e), fun hp => by have := hph i b g hl hp; have := hr g e; omega⟩, (h.mem i b hl).2⟩, h.dj, below_grown h.below h.below.size hg (fun g e => Nat.le_trans hB (hr g e)), h.pin, h.nx, h.wfT, h.idT⟩
  obtain ⟨⟨Ds, h1, h2, h3⟩, h4, h5⟩ := h.df
  exact ⟨⟨Ds, h1, h2, fun D hD => ⟨(h3 D hD).1, (h3 D hD).2.1, hK D _ (hdB D (by rw [h1]; exact List.mem_map_of_mem hD)) (h3 D hD).2.2⟩⟩, fun D o hD => hK D o (hkB D o hD) (h4 D o hD), Nat.le_trans h5 hg.size⟩

/-- One more mark. -/
theorem Rel.mark {Γ : Gam} {ρ : Env} {S : St} {a : Act} {w : World} (h : Rel Γ ρ S a w) {D B : Nat} (hB : Γ.w0.heap.size ≤ B) (hD : B ≤ D) (hk : w.heap[D]? = some noCalls) (hph : ∀ i b g, look S.mem i = some b → phys ρ i b = some g → g < B)
    (hkB : ∀ D o, Γ.kp D o → D < B) (hdB : ∀ D, markOf D ∈ a.defers → D < B) : Rel Γ ρ S { a with defers := markOf D :: a.defers } w := by
  refine ⟨h.tm, ?_, h.mem, h.dj, h.below, h.pin, h.nx, h.wfT, h.idT⟩
  obtain ⟨⟨Ds, h1, h2, h3⟩, h4, h5⟩ := h.df
  refine ⟨⟨D :: Ds, by rw [h1]; rfl, List.nodup_cons.2 ⟨fun hm => ?_, h2⟩, fun D' hm => ?_⟩, h4, h5⟩
  · have := hdB D (by rw [h1]; exact List.mem_map_of_mem hm); omega
  · rcases List.mem_cons.1 hm with rfl | hm
    · exact ⟨Nat.le_trans hB hD, fun o ho => by have := hkB _ o ho; omega, hk, fun i b hl hp => by have := hph i b _ hl hp; omega⟩
    · exact h3 D' hm

/-- A slice in a box of its own, and a function value that holds the box. -/
theorem Rel.boxFn {Γ : Gam} {ρ : Env} {S : St} {a : Act} {w : World} (hrel : Rel Γ ρ S a w) {i : Nat} (f : FuncId) (hi : S.has i) (hlk : look S.mem S.next = none) (hlt : S.next < 1000000) {v : Value} (hv : (SV.sl i).den ρ = v) (el : TypeId) (dst : Option Tmp) (n' : Nat) (hn' : Γ.n0 ≤ n') :
    ∃ ρ', Rel Γ ρ' { (Eff.on S dst ⟨.fn f [.ptr S.next 0 (.lit 0)], oneE S.next (some (.st true [.sl i]))⟩) with next := n' } (a.put dst (.func (.func f) #[] #[.pointer (some ⟨w.heap.size, 0, none⟩)])) (w.alloc (.cells #[v] el)) := by
  have hni : ¬ Γ.pinned S.next := by
    rintro (hp | hp)
    · have := hrel.nx; omega
    · omega
  have hone : v.cells = #[v] := by rw [← hv]; simp only [SV.den]; exact one_cells (sliceV_one _)
  have hcs : cellsL ρ [SV.sl i] = [v] := by simp only [cellsL, hv, hone]; rfl
  have hb : Below w.heap.size w (w.alloc (.cells #[v] el)) := (Below.refl _ w).alloc (Nat.le_refl _) _
  have hnew : (w.alloc (.cells #[v] el)).heap[w.heap.size]? = some (.cells #[v] el) := World.alloc_heap_new w _
  have hat : (Blk.st true [SV.sl i]).atoms := fun p hp => by
    rw [List.mem_singleton.1 hp]; simp only [isAtom]
  have hid : (Blk.st true [SV.sl i]).ids S.has := by
    show idsL S.has [SV.sl i]
    simp only [idsL, SV.ids]; exact ⟨hi, trivial⟩
  have := hrel.alloc (i := S.next) (b := .st true [.sl i]) (cap := 0) hb hlk hni rfl hat hid (by rw [World.size_alloc]; omega)
    (fun j u hj => by
      simp only [World.cell?, hnew]
      simp only [Blk.cells, hcs] at hj
      simpa using hj)
    (fun j => by simp only [World.frozen?, hnew]; simp) S.next hrel.nx
  have h2 := this.put dst (v := .fn f [.ptr S.next 0 (.lit 0)]) (by simp only [wf, wfL]; exact ⟨trivial, trivial⟩) (by simp only [SV.ids, idsL, SN.ids]; exact ⟨⟨by simp [St.has, look_upd], trivial⟩, trivial⟩)
  have hden : (SV.fn f [.ptr S.next 0 (.lit 0)]).den (ρ.set S.next w.heap.size 0 0) = .func (.func f) #[] #[.pointer (some ⟨w.heap.size, 0, none⟩)] := by simp [SV.den, denL, SN.den, Env.set]
  rw [hden] at h2
  exact ⟨_, h2.next hn'⟩

theorem den_sl (ρ : Env) (i : Nat) : ∃ ao n c, (SV.sl i).den ρ = .slice ao n c := by
  simp only [SV.den]
  unfold sliceV
  split
  · exact ⟨_, _, _, rfl⟩
  · exact ⟨none, 0, 0, rfl⟩

/-- As 'Rel.weaken', with what stays. -/
theorem Rel.weaken2 {Γ : Gam} {ρ : Env} {S S' : St} {a : Act} {w : World} (h : Rel Γ ρ S a w) (hw : Weak S S') (hn : Γ.n0 ≤ S'.next) : ∃ ρ', Rel Γ ρ' S' a w ∧ ρ'.blk = ρ.blk ∧ ρ'.off = ρ.off ∧ ρ'.vec = ρ.vec := by
  refine ⟨ρ.withJunk fun j => (denL ρ S.tmps).getD j undef, ⟨?_, h.df.map (Nat.le_refl _) fun D _ hD => ⟨hD.1, fun i b hl hp => by rw [phys_junk] at hp; exact hD.2 i b (memW_look hw.mem i b hl).1 hp⟩, ?_, ?_, h.below, ⟨h.pin.blk, h.pin.off, h.pin.cap, h.pin.vec⟩, hn, slotsW_wf 0 _ _ hw.slots h.wfT, idsLB_spec _ hw.ids⟩, rfl, rfl, rfl⟩
  · rw [h.tm, slotsW_den ρ _ 0 S.tmps S'.tmps hw.slots (fun j _ => by simp)]
  · intro i b hl
    obtain ⟨h1, h2⟩ := memW_look hw.mem i b hl
    obtain ⟨hok, -⟩ := h.mem i b h1
    have hc := Blk.cells_junk ρ (fun j => (denL ρ S.tmps).getD j undef) h2
    refine ⟨⟨hok.atoms, ?_, ?_, hok.theirs, hok.vec⟩, memIds_look hw.mids i b hl⟩
    · rw [hc]; exact hok.cell
    · rw [hc]; exact hok.mine
  · intro i j b c hi hj hne g hp hq
    rw [phys_junk] at hp hq
    exact h.dj i j b c (memW_look hw.mem i b hi).1 (memW_look hw.mem j c hj).1 hne g hp hq

/-- 'bring' without new names: what stays. -/
theorem bring_sound2 {Γ : Gam} (h0 : Γ.n0 = 0) {ρ : Env} {S S' : St} {a : Act} {w : World} (h : Rel Γ ρ S a w) {f : Fh} (hf : f.hv = []) (hr : T.Reach (bring f S) S') : ∃ ρ', Rel Γ ρ' S' a w ∧ ρ'.blk = ρ.blk ∧ ρ'.off = ρ.off ∧ ρ'.vec = ρ.vec := by
  unfold bring at hr
  rw [T.reach_bind] at hr
  obtain ⟨S1, h1, h2⟩ := hr
  rw [hf] at h1
  simp only [nameL, T.reach_ret] at h1
  subst h1
  split at h2
  · rename_i m hm
    obtain ⟨hk, h2⟩ := ifT_reach h2
    rw [T.reach_ret] at h2
    subst h2
    simp only [Bool.and_eq_true] at hk
    obtain ⟨⟨⟨⟨k1, k2⟩, k3⟩, k4⟩, k5⟩ := hk
    have hl : ∀ x ∈ m ++ globM S1.mem, look S1.mem x.1 = some x.2 := fun x hx => by
      rcases List.mem_append.1 hx with hx | hx
      · exact pickM_look hm x hx
      · exact look_key (globM_mem hx) k3
    exact (h.soft f.ks).weaken2 (S' := ⟨junkL f.ks 0 (softL f.ks S1.tmps), m ++ globM S1.mem, f.nx⟩) ⟨slotsW_junkL f.ks 0 _ k1, memW_of _ hl _ k2, k4, k5⟩ (by rw [h0]; exact Nat.zero_le _)
  · exact (T.reach_fail h2).elim
theorem markOf_inj {D D' : Nat} (h : markOf D = markOf D') : D = D' := by
  unfold markOf at h
  cases h; rfl
theorem Rel.marks_lt {Γ : Gam} {ρ : Env} {S : St} {a : Act} {w : World} (h : Rel Γ ρ S a w) : (∀ D o, Γ.kp D o → D < w.heap.size) ∧ ∀ D, markOf D ∈ a.defers → D < w.heap.size := by
  obtain ⟨⟨Ds, h1, h2, h3⟩, h4, h5⟩ := h.df
  refine ⟨fun D o hD => (Array.getElem?_eq_some_iff.1 (h4 D o hD).1).1, fun D hm => ?_⟩
  rw [h1] at hm
  obtain ⟨D', hD', e⟩ := List.mem_map.1 hm
  rw [← markOf_inj e]
  exact (Array.getElem?_eq_some_iff.1 (h3 D' hD').2.2.1).1
end Go.Sx
