import Derived.Test.YtdmphnfpcblfnaaDoorSxK
/- The symbolic layer, part L: regions whose order is left open. One run in the text's order serves all orders, if operations that are not ordered touch neither each other's slots nor each other's blocks. -/
namespace Go.Sx
open Go.RowKit (Below)

/-- The blocks that an operation touches. -/
def blkOf : SV → List Nat
  | .ptr b _ _ => [b]
  | .slice b _ _ _ _ => [b]
  | _ => []

def touch (S : St) (o : Oper) : List Nat :=
  match o.op with
  | .alloc _ => [S.next]
  | .box _ _ => [S.next]
  | .load _ x => blkOf (evS S x)
  | .store _ x _ => blkOf (evS S x)
  | .call c => match c.callee with
    | .builtin .copy => match c.args[0]?, c.args[1]? with
      | some x, some y => blkOf (evS S x) ++ blkOf (evS S y)
      | _, _ => []
    | _ => []
  | _ => []

theorem map_ev {S1 S2 : St} {l : List Operand} (h : ∀ x ∈ l, evS S1 x = evS S2 x) : l.map (evS S1) = l.map (evS S2) := List.map_congr_left h

theorem pureS_congr (cx : Cx) {S1 S2 : St} (o : Oper) (h : ∀ x ∈ o.op.operands, evS S1 x = evS S2 x) : pureS cx o (evS S1) = pureS cx o (evS S2) := by
  obtain ⟨dst, op, type, pos, after, guard⟩ := o
  cases op <;> simp only [Op.operands] at h <;> simp only [pureS]
  case move x => rw [h x (by simp)]
  case assign x => rw [h x (by simp)]
  case pick c a b => rw [h c (by simp), h a (by simp), h b (by simp)]
  case build t parts =>
    rw [List.map_congr_left (f := fun x : Nat × Operand => (x.1, evS S1 x.2)) (g := fun x => (x.1, evS S2 x.2)) (fun x hx => by rw [h x.2 (by simp; exact ⟨x.1, by simpa using hx⟩)])]
  case binOp op t x y yt => rw [h x (by simp), h y (by simp)]
  case unOp op t x => rw [h x (by simp)]
  case convert s d x => rw [h x (by simp)]
  case fieldAddr s x f => rw [h x (by simp)]
  case field s x f => rw [h x (by simp)]
  case indexAddr t x i => rw [h x (by simp), h i (by simp)]
  case index t x i => rw [h x (by simp), h i (by simp)]
  case extract x i => rw [h x (by simp)]
  case slice t x lo hi mx =>
    cases mx with
    | some _ => rfl
    | none =>
      have e1 : lo.map (evS S1) = lo.map (evS S2) := by cases lo <;> simp; exact h _ (by simp)
      have e2 : hi.map (evS S1) = hi.map (evS S2) := by cases hi <;> simp; exact h _ (by simp)
      simp only [h x (by simp), e1, e2]
  case makeFunc fn first caps =>
    rw [map_ev (l := caps.toList) (fun x hx => h x (by simp; exact .inr (by simpa using hx)))]
  case call c =>
    cases hc : c.callee with
    | builtin b =>
      cases b <;> try rfl
      simp only
      cases c.argTypes[0]? with
      | none => rfl
      | some t =>
        cases hx : c.args[0]? with
        | none => rfl
        | some x =>
          simp only
          rw [h x (by simp only [Call.operands, hc]; simp; exact Array.mem_of_getElem? hx)]
    | invoke r m => rfl
    | value f =>
      simp only
      rw [h f (by simp [Call.operands, hc]), map_ev (l := c.args.toList) (fun x hx => h x (by simp only [Call.operands, hc]; simp; exact .inr (by simpa using hx)))]

theorem loadS_congr (cx : Cx) {S1 S2 : St} {t : TypeId} {x : SV} (h : ∀ i ∈ blkOf x, look S1.mem i = look S2.mem i) : loadS cx S1 t x = loadS cx S2 t x := by
  unfold loadS
  cases cx.tab t with
  | none => rfl
  | some ti => cases x <;> try rfl
               rename_i b o y
               simp only
               rw [h b (by simp [blkOf])]

theorem storeE_congr (cx : Cx) {S1 S2 : St} {t : TypeId} {x v : SV} (h : ∀ i ∈ blkOf x, look S1.mem i = look S2.mem i) : storeE cx S1 t x v = storeE cx S2 t x v := by
  unfold storeE
  cases cx.tab t with
  | none => rfl
  | some ti => cases x <;> try rfl
               rename_i b o y
               simp only
               rw [h b (by simp [blkOf])]

theorem copyE_congr (cx : Cx) {S1 S2 : St} {t : TypeId} {x y : SV} (h : ∀ i ∈ blkOf x ++ blkOf y, look S1.mem i = look S2.mem i) : copyE cx S1 t x y = copyE cx S2 t x y := by
  unfold copyE
  cases cx.tab t with
  | none => rfl
  | some ti =>
    cases x <;> try rfl
    cases y <;> try rfl
    rename_i b o z len cap b' o' z' len' cap'
    simp only
    rw [h b (by simp [blkOf]), h b' (by simp [blkOf])]

/-- What an operation does hangs on its operands, its number, and the blocks that it touches, on nothing else. -/
theorem effS_congr (cx : Cx) {S1 S2 : St} (o : Oper) (h : ∀ x ∈ o.op.operands, evS S1 x = evS S2 x) (hn : S1.next = S2.next) (hm : ∀ i ∈ touch S1 o, look S1.mem i = look S2.mem i) :
    effS cx S1 o = effS cx S2 o ∧ touch S1 o = touch S2 o := by
  have hp := pureS_congr cx o h
  unfold effS
  rw [hp]
  obtain ⟨dst, op, type, pos, after, guard⟩ := o
  have ht : touch S1 ⟨dst, op, type, pos, after, guard⟩ = touch S2 ⟨dst, op, type, pos, after, guard⟩ := by
    unfold touch
    simp only at h ⊢
    cases op <;> simp only [Op.operands] at h <;> try rfl
    case alloc t => simp only [hn]
    case box t x => simp only [hn]
    case load t x => simp only [h x (by simp)]
    case store t x v => simp only [h x (by simp)]
    case call c =>
      simp only
      cases hc : c.callee with
      | invoke r m => rfl
      | value f => rfl
      | builtin b =>
        cases b <;> try rfl
        simp only
        cases hx : c.args[0]? with
        | none => rfl
        | some x =>
          cases hy : c.args[1]? with
          | none => rfl
          | some y =>
            simp only
            rw [h x (by simp only [Call.operands, hc]; simp; exact Array.mem_of_getElem? hx), h y (by simp only [Call.operands, hc]; simp; exact Array.mem_of_getElem? hy)]
  refine ⟨?_, ht⟩
  cases pureS cx ⟨dst, op, type, pos, after, guard⟩ (evS S2) with
  | some t => rfl
  | none =>
    simp only
    unfold touch at hm
    simp only at h hm
    cases op <;> simp only [Op.operands] at h <;> try rfl
    case alloc t =>
      simp only
      cases cx.tab t with
      | none => rfl
      | some ti =>
        simp only
        have := hm S1.next (by simp)
        unfold allocE
        rw [← hn, this]
    case box t x =>
      simp only
      have := hm S1.next (by simp)
      unfold allocE
      rw [← hn, this, h x (by simp)]
    case load t x =>
      simp only at hm ⊢
      rw [loadS_congr cx hm, h x (by simp)]
    case store t x v =>
      simp only at hm ⊢
      rw [storeE_congr cx hm, h x (by simp), h v (by simp)]
    case call c =>
      simp only at hm ⊢
      cases hc : c.callee with
      | invoke r m => rfl
      | value f =>
        simp only
        rw [h f (by simp [Call.operands, hc]), map_ev (l := c.args.toList) (fun x hx => h x (by simp only [Call.operands, hc]; simp; exact .inr (by simpa using hx)))]
      | builtin b =>
        cases b <;> try rfl
        simp only [hc] at hm ⊢
        cases c.argTypes[0]? with
        | none => rfl
        | some t =>
          cases hx : c.args[0]? with
          | none => rfl
          | some x =>
            cases hy : c.args[1]? with
            | none => rfl
            | some y =>
              simp only [hx, hy] at hm ⊢
              rw [copyE_congr cx hm, h x (by simp only [Call.operands, hc]; simp; exact Array.mem_of_getElem? hx), h y (by simp only [Call.operands, hc]; simp; exact Array.mem_of_getElem? hy)]

/-- An operation under its guard: what it does. -/
def opE (cx : Cx) (ops : Array Oper) (S : St) (o : Oper) : T Eff :=
  match o.guard with
  | none => effS cx S o
  | some (j, want) => match (ops[j]?).bind (·.dst) with
    | none => .ret ⟨.raw undef, none⟩
    | some t => match getS S.tmps t with
      | .tt => match want with
        | true => effS cx S o
        | false => .ret ⟨.raw undef, none⟩
      | .ff => match want with
        | true => .ret ⟨.raw undef, none⟩
        | false => effS cx S o
      | .bool b => match want with
        | true => .ite b (effS cx S o) (.ret ⟨.raw undef, none⟩)
        | false => .ite b (.ret ⟨.raw undef, none⟩) (effS cx S o)
      | .raw (.tuple _) => .ret ⟨.raw undef, none⟩
      | _ => .fail "a guard that is no truth"

theorem opE_cases {Γ : Gam} {cx : Cx} {ρ : Env} {ops : Array Oper} {S : St} {a : Act} {w : World} (h : Rel Γ ρ S a w) {o : Oper} {e : Eff} (hr : T.Reach (opE cx ops S o) e) :
    (Region.wanted o (yielded ops a.tmps) = true ∧ T.Reach (effS cx S o) e) ∨ (Region.wanted o (yielded ops a.tmps) = false ∧ e = ⟨.raw undef, none⟩) := by
  unfold opE at hr
  unfold Region.wanted
  split at hr
  · rename_i hg; rw [hg]; exact .inl ⟨rfl, hr⟩
  · rename_i j want hg
    rw [hg]
    simp only [yielded]
    split at hr
    · rename_i hd
      rw [T.reach_ret] at hr
      rw [hd]
      exact .inr ⟨by simp, hr⟩
    · rename_i t hd
      rw [hd]
      simp only [Option.bind_some]
      split at hr
      · rename_i hv
        have := getS_tmps h t true (by rw [hv]; simp [SV.den])
        rw [this]
        split at hr
        · exact .inl ⟨rfl, hr⟩
        · rw [T.reach_ret] at hr; exact .inr ⟨rfl, hr⟩
      · rename_i hv
        have := getS_tmps h t false (by rw [hv]; simp [SV.den])
        rw [this]
        split at hr
        · rw [T.reach_ret] at hr; exact .inr ⟨rfl, hr⟩
        · exact .inl ⟨rfl, hr⟩
      · rename_i b hv
        have := getS_tmps h t b (by rw [hv]; simp [SV.den])
        rw [this]
        split at hr
        · rw [T.reach_ite] at hr
          rcases hr with ⟨rfl, hr⟩ | ⟨rfl, hr⟩
          · exact .inl ⟨rfl, hr⟩
          · rw [T.reach_ret] at hr; exact .inr ⟨rfl, hr⟩
        · rw [T.reach_ite] at hr
          rcases hr with ⟨rfl, hr⟩ | ⟨rfl, hr⟩
          · rw [T.reach_ret] at hr; exact .inr ⟨rfl, hr⟩
          · exact .inl ⟨rfl, hr⟩
      · rename_i vs hv
        rw [T.reach_ret] at hr
        have := getS_tmps_none h t hv
        refine .inr ⟨?_, hr⟩
        split
        · rename_i b hb; exact absurd hb (this b)
        · simp
      · exact (T.reach_fail hr).elim

theorem opE_congr (cx : Cx) (ops : Array Oper) {S1 S2 : St} (o : Oper) (h : ∀ x ∈ o.op.operands, evS S1 x = evS S2 x) (hg : ∀ j want t, o.guard = some (j, want) → (ops[j]?).bind (·.dst) = some t → getS S1.tmps t = getS S2.tmps t)
    (hn : S1.next = S2.next) (hm : ∀ i ∈ touch S1 o, look S1.mem i = look S2.mem i) : opE cx ops S1 o = opE cx ops S2 o := by
  have he := (effS_congr cx o h hn hm).1
  unfold opE
  cases hgu : o.guard with
  | none => exact he
  | some jw =>
    obtain ⟨j, want⟩ := jw
    simp only
    cases hd : (ops[j]?).bind (·.dst) with
    | none => rfl
    | some t =>
      simp only
      rw [hg j want t hgu hd, he]

theorem look_memE (m : Mem) (w : Option (Nat × Blk)) (j : Nat) : look (memE m w) j = match w with
    | some (i, b) => if i = j then some b else look m j
    | none => look m j := by
  cases w with
  | none => rfl
  | some x => obtain ⟨i, b⟩ := x; simp only [memE, look_upd]

theorem Eff.on_mem (S : St) (dst : Option Tmp) (e : Eff) : (e.on S dst).mem = memE S.mem e.w := by unfold Eff.on; rw [St.put_mem]
theorem Eff.on_next (S : St) (dst : Option Tmp) (e : Eff) : (e.on S dst).next = S.next := by unfold Eff.on; rw [St.put_next]
theorem Eff.on_tmps (S : St) (dst : Option Tmp) (e : Eff) : (e.on S dst).tmps = match dst with | some d => S.tmps.set d e.v | none => S.tmps := by
  unfold Eff.on; cases dst <;> simp [St.put, setS_eq]

theorem Alike.on {S S' : St} (hs : Alike S S') (dst : Option Tmp) (e : Eff) : Alike (e.on S dst) (e.on S' dst) := by
  refine ⟨?_, fun t => ?_, fun i => by rw [Eff.on_mem, Eff.on_mem, look_memE, look_memE]; split <;> simp [hs.mem], by rw [Eff.on_next, Eff.on_next]; exact hs.next⟩
  · rw [Eff.on_tmps, Eff.on_tmps]; cases dst <;> simp [hs.len]
  · rw [Eff.on_tmps, Eff.on_tmps]
    cases dst with
    | none => exact hs.tmps t
    | some d =>
      simp only [getS_set, hs.len]
      split
      · exact VEq.refl _
      · exact hs.tmps t

def at_ (S : St) (n : Nat) : St := { S with next := n }

theorem Alike.at_ {S S' : St} (h : Alike S S') (n : Nat) : Alike (at_ S n) (at_ S' n) := ⟨h.len, h.tmps, h.mem, rfl⟩

/-! ### Two operations that are apart -/
/-- What an operation of a region may touch, and what it may write: told beforehand. -/
abbrev Foots := Nat → List Nat × List Nat

structure Fits (F : List Nat × List Nat) (S : St) (o : Oper) (e : Eff) : Prop where
  touch : ∀ i ∈ touch S o, i ∈ F.1
  writes : ∀ i b, e.w = some (i, b) → i ∈ F.2

structure Indep (F F' : List Nat × List Nat) : Prop where
  a : ∀ i ∈ F.2, i ∉ F'.1 ∧ i ∉ F'.2 ∧ i < 1000000
  b : ∀ i ∈ F'.2, i ∉ F.1 ∧ i ∉ F.2 ∧ i < 1000000

theorem Indep.symm {F F' : List Nat × List Nat} (h : Indep F F') : Indep F' F := ⟨h.b, h.a⟩

theorem getS_on {S : St} {dst : Option Tmp} {e : Eff} {t : Nat} (h : ∀ d, dst = some d → d ≠ t) : getS (e.on S dst).tmps t = getS S.tmps t := by
  rw [Eff.on_tmps, getS_eq, getS_eq]
  cases dst with
  | none => rfl
  | some d => simp [List.getD, List.getElem?_set_ne (h d rfl)]

/-- The state that another one reads as, with a slot put back, and another memory. -/
def mixS (A S : St) (dst : Option Tmp) : St := ⟨match dst with
  | some d => A.tmps.set d (getS S.tmps d)
  | none => A.tmps, S.mem, S.next⟩

/-- An operation apart from another one does what it does, whether that has been done or not: A reads as the one state, B as the other one. -/
theorem opE_apart {cx : Cx} {ops : Array Oper} {A S : St} {N : Nat} {oi oj : Oper} {Fj : List Nat × List Nat} (hap : oi.apart ops oj = true)
    (hlook : ∀ i ∈ Fj.1, look A.mem i = look S.mem i) (hglob : ∀ g, look A.mem (gid g) = none ↔ look S.mem (gid g) = none) (ht : ∀ i ∈ touch (at_ A N) oj, i ∈ Fj.1) :
    opE cx ops (at_ (mixS A S oi.dst) N) oj = opE cx ops (at_ A N) oj ∧ touch (at_ (mixS A S oi.dst) N) oj = touch (at_ A N) oj := by
  obtain ⟨h1, h2, h3⟩ := Oper.apart_spec hap
  have hget : ∀ t, (∀ d, oi.dst = some d → d ≠ t) → getS (mixS A S oi.dst).tmps t = getS A.tmps t := by
    intro t h
    unfold mixS
    cases hd : oi.dst with
    | none => rfl
    | some d =>
      simp only [getS_set]
      rw [if_neg (fun hc => h d hd hc.1)]
  have hev : ∀ x ∈ oj.op.operands, evS (at_ A N) x = evS (at_ (mixS A S oi.dst) N) x := by
    intro x hx
    cases x with
    | tmp t =>
      refine (hget t fun d hd e => h1 d hd ?_).symm
      subst e
      exact List.mem_append_left _ (List.mem_filterMap.2 ⟨.tmp d, by simpa using hx, rfl⟩)
    | const v => rfl
    | func f => rfl
    | global g =>
      simp only [evS, at_, mixS]
      have := hglob g
      cases hA : look A.mem (gid g) with
      | none => rw [this.1 hA]
      | some b =>
        cases hS : look S.mem (gid g) with
        | none => rw [this.2 hS] at hA; cases hA
        | some c => rfl
  have hgu : ∀ j want t, oj.guard = some (j, want) → (ops[j]?).bind (·.dst) = some t → getS (at_ A N).tmps t = getS (at_ (mixS A S oi.dst) N).tmps t := by
    intro j want t hg hd
    refine (hget t fun d hdd e => h1 d hdd ?_).symm
    subst e
    simp [Oper.looksAt, hg, hd]
  have hm : ∀ i ∈ touch (at_ A N) oj, look (at_ A N).mem i = look (at_ (mixS A S oi.dst) N).mem i := fun i hi => hlook i (ht i hi)
  exact ⟨(opE_congr cx ops oj hev hgu rfl hm).symm, (effS_congr cx oj hev rfl hm).2.symm⟩

theorem mix_alike {A S S' : St} {dst : Option Tmp} (h : Alike A S') (hlen : S'.tmps.length = S.tmps.length) (ht : ∀ t, (∀ d, dst = some d → d ≠ t) → getS S'.tmps t = getS S.tmps t) : Alike (mixS A S dst) S := by
  refine ⟨?_, fun t => ?_, fun _ => rfl, rfl⟩
  · unfold mixS; cases dst <;> simp [h.len, hlen]
  · unfold mixS
    cases dst with
    | none => rw [← ht t (fun d hd => by cases hd)]; exact h.tmps t
    | some d =>
      simp only [getS_set]
      by_cases hd : d = t
      · subst hd
        split
        · exact VEq.refl _
        · rename_i hl
          have hl : ¬ d < A.tmps.length := fun hc => hl ⟨rfl, hc⟩
          have e1 : getS A.tmps d = .raw undef := by rw [getS_eq]; simp [List.getD, hl]
          have e2 : getS S.tmps d = .raw undef := by rw [getS_eq]; simp [List.getD, show ¬ d < S.tmps.length by rw [← hlen, ← h.len]; exact hl]
          rw [e1, e2]; exact VEq.refl _
      · rw [if_neg (fun hc => hd hc.1), ← ht t (fun d' hd' => by cases hd'; exact hd)]; exact h.tmps t

theorem on_comm {S : St} {oi oj : Oper} {ei ej : Eff} (hd : ∀ d, oi.dst = some d → oj.dst ≠ some d) (hw : ∀ i b j c, ei.w = some (i, b) → ej.w = some (j, c) → i ≠ j) :
    Alike (ej.on (ei.on S oi.dst) oj.dst) (ei.on (ej.on S oj.dst) oi.dst) := by
  have heq : (ej.on (ei.on S oi.dst) oj.dst).tmps = (ei.on (ej.on S oj.dst) oi.dst).tmps := by
    rw [Eff.on_tmps, Eff.on_tmps, Eff.on_tmps, Eff.on_tmps]
    cases hi : oi.dst with
    | none => cases oj.dst <;> rfl
    | some d =>
      cases hj : oj.dst with
      | none => rfl
      | some d' =>
        have : d ≠ d' := fun e => hd d hi (by rw [hj, e])
        simp only
        exact List.set_comm _ _ this
  refine ⟨by rw [heq], fun t => by rw [heq]; exact VEq.refl _, fun k => ?_, by simp only [Eff.on_next]⟩
  · simp only [Eff.on_mem, look_memE]
    cases hi : ei.w with
    | none => cases ej.w <;> rfl
    | some x =>
      obtain ⟨i, b⟩ := x
      cases hj : ej.w with
      | none => rfl
      | some y =>
        obtain ⟨j, c⟩ := y
        have := hw i b j c hi hj
        simp only
        by_cases h1 : j = k
        · subst h1; simp [this]
        · simp [h1]
end Go.Sx
