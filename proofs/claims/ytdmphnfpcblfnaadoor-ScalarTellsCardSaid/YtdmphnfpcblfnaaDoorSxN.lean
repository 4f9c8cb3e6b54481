import Derived.Test.YtdmphnfpcblfnaaDoorSxM
/- The symbolic layer, part N: tables of types, forgetting, loops with an invariant, contracts of functions. -/
namespace Go.Sx
open Go.RowKit (Below)

/-! ### Tables -/
def tabOf : List (Nat × TyI) → Tab
  | [], _ => none
  | (j, i) :: l, t => match Nat.beq j t with
    | true => some i
    | false => tabOf l t

theorem tabOk_of {P : Program} {l : List (Nat × TyI)} (h : ∀ x ∈ l, TyOk P x.1 x.2) : TabOk P (tabOf l) := by
  intro t i ht
  induction l with
  | nil => cases ht
  | cons x l ih =>
    obtain ⟨j, k⟩ := x
    simp only [tabOf] at ht
    split at ht
    · rename_i hj
      have := Nat.eq_of_beq_eq_true hj
      cases ht
      subst this
      exact h _ (List.mem_cons_self)
    · exact ih (fun y hy => h y (by simp [hy])) ht

def undD (P : Program) (t : TypeId) : TypeDesc := (P.underlying t).getD .invalid
def fieldsD (P : Program) (t : TypeId) : Array Field :=
  match undD P t with
  | .struct fs => fs
  | _ => #[]

theorem tyOk_of {P : Program} {t : TypeId} {i : TyI} (h1 : P.underlying t = some i.d) (h2 : (P.info? t).map (fun j => (j.size, j.bytes)) = some (i.sz, i.bytes)) (h3 : ∀ ρ, (P.info? t).bind (·.zero) = some (i.z.den ρ)) (h4 : wf i.z) (h5 : ∀ p, i.z.ids p)
    (h6 : i.pl = true → P.stoodInHeld t = false ∧ P.eqGuardType P.depth t = false ∧ ∀ fs, i.d = .struct fs → ∀ f ∈ fs.toList, f.name ≠ "_") : TyOk P t i := by
  refine ⟨h1, ?_, h4, h5, h6⟩
  cases hi : P.info? t with
  | none => rw [hi] at h2; cases h2
  | some j =>
    rw [hi] at h2
    simp at h2
    refine ⟨j, rfl, h2.1, h2.2, fun ρ => ?_⟩
    have := h3 ρ
    rw [hi] at this
    simpa using this

theorem names_of {d : TypeDesc} {fs : Array Field} (hd : d = .struct fs) (h : (fs.toList.all fun f => f.name != "_") = true) : ∀ gs, d = .struct gs → ∀ f ∈ gs.toList, f.name ≠ "_" := by
  intro gs hg f hf
  rw [hd] at hg
  cases hg
  have := List.all_eq_true.1 h f hf
  simpa using this

/-! ### Forgetting -/
mutual
def nj : SV → Bool
  | .junk _ => false
  | .agg ps => njL ps
  | .tup ps => njL ps
  | .fn _ cs => njL cs
  | .lit _ _ | .int _ _ | .tt | .ff | .bool _ | .ptr _ _ _ | .slice _ _ _ _ _ | .raw _ | .ints _ _ _ => true
def njL : List SV → Bool
  | [] => true
  | v :: vs => nj v && njL vs
end

def Env.withJunk (ρ : Env) (f : Nat → Value) : Env := ⟨ρ.blk, ρ.off, ρ.cap, f⟩

theorem SN.den_junk (ρ : Env) (f : Nat → Value) (x : SN) : x.den (ρ.withJunk f) = x.den ρ := by cases x <;> rfl

mutual
theorem SV.den_junk (ρ : Env) (f : Nat → Value) : (v : SV) → nj v = true → v.den (ρ.withJunk f) = v.den ρ
  | .lit _ _, _ => by simp [SV.den]
  | .int _ _, _ => by simp [SV.den]
  | .tt, _ => by simp [SV.den]
  | .ff, _ => by simp [SV.den]
  | .bool _, _ => by simp [SV.den]
  | .raw _, _ => by simp [SV.den]
  | .ints _ _ _, _ => by simp [SV.den]
  | .ptr b o x, _ => by simp [SV.den, Env.withJunk]; exact SN.den_junk ρ f x
  | .slice b o x l c, _ => by
    simp only [SV.den, SN.den_junk]; rfl
  | .agg ps, h => by simp only [nj] at h; simp [SV.den, cellsL_junk ρ f ps h]
  | .tup ps, h => by simp only [nj] at h; simp [SV.den, denL_junk ρ f ps h]
  | .fn g cs, h => by simp only [nj] at h; simp [SV.den, denL_junk ρ f cs h]
  | .junk _, h => by simp [nj] at h
theorem cellsL_junk (ρ : Env) (f : Nat → Value) : (l : List SV) → njL l = true → cellsL (ρ.withJunk f) l = cellsL ρ l
  | [], _ => by simp [cellsL]
  | v :: vs, h => by simp only [njL, Bool.and_eq_true] at h; simp [cellsL, SV.den_junk ρ f v h.1, cellsL_junk ρ f vs h.2]
theorem denL_junk (ρ : Env) (f : Nat → Value) : (l : List SV) → njL l = true → denL (ρ.withJunk f) l = denL ρ l
  | [], _ => by simp [denL]
  | v :: vs, h => by simp only [njL, Bool.and_eq_true] at h; simp [denL, SV.den_junk ρ f v h.1, denL_junk ρ f vs h.2]
end

def Blk.nj : Blk → Bool
  | .st _ ps => njL ps
  | .dyn _ _ _ => true

theorem Blk.cells_junk (ρ : Env) (f : Nat → Value) {b : Blk} (h : b.nj = true) : b.cells (ρ.withJunk f) = b.cells ρ := by
  cases b with
  | st o ps => exact cellsL_junk ρ f ps h
  | dyn o k l => rfl

/-- Slot by slot: what it was, or what is not told. -/
def slotsW : Nat → List SV → List SV → Prop
  | _, [], [] => True
  | i, x :: xs, y :: ys => (match y with
    | .junk j => j = i
    | y => x = y ∧ Sx.nj y = true) ∧ slotsW (i + 1) xs ys
  | _, _, _ => False

def memW (m : Mem) : Mem → Prop
  | [] => True
  | (i, b) :: r => look m i = some b ∧ b.nj = true ∧ memW m r

mutual
def idsB (m : Mem) : SV → Bool
  | .ptr b _ x => (look m b).isSome && (match x with | .var i => (look m i).isSome | _ => true)
  | .slice b _ x l c => (look m b).isSome && (match x with | .var i => (look m i).isSome | _ => true) && (match l with | .var i => (look m i).isSome | _ => true) && (match c with | .var i => (look m i).isSome | _ => true)
  | .agg ps => idsLB m ps
  | .tup ps => idsLB m ps
  | .fn _ cs => idsLB m cs
  | .lit _ _ | .int _ _ | .tt | .ff | .bool _ | .raw _ | .ints _ _ _ | .junk _ => true
def idsLB (m : Mem) : List SV → Bool
  | [] => true
  | v :: vs => idsB m v && idsLB m vs
end

theorem sn_ids {m : Mem} {x : SN} (h : (match x with | .var i => (look m i).isSome | _ => true) = true) : x.ids (fun i => (look m i).isSome = true) := by
  cases x <;> simp [SN.ids] at *
  exact h

mutual
theorem idsB_spec {m : Mem} : (v : SV) → idsB m v = true → v.ids (fun i => (look m i).isSome = true)
  | .ptr b o x, h => by simp only [idsB, Bool.and_eq_true] at h; simp only [SV.ids]; exact ⟨h.1, sn_ids h.2⟩
  | .slice b o x l c, h => by
    simp only [idsB, Bool.and_eq_true] at h; simp only [SV.ids]; exact ⟨h.1.1.1, sn_ids h.1.1.2, sn_ids h.1.2, sn_ids h.2⟩
  | .agg ps, h => by simp only [idsB] at h; simp only [SV.ids]; exact idsLB_spec ps h
  | .tup ps, h => by simp only [idsB] at h; simp only [SV.ids]; exact idsLB_spec ps h
  | .fn _ cs, h => by simp only [idsB] at h; simp only [SV.ids]; exact idsLB_spec cs h
  | .lit _ _, _ => by simp [SV.ids]
  | .int _ _, _ => by simp [SV.ids]
  | .tt, _ => by simp [SV.ids]
  | .ff, _ => by simp [SV.ids]
  | .bool _, _ => by simp [SV.ids]
  | .raw _, _ => by simp [SV.ids]
  | .ints _ _ _, _ => by simp [SV.ids]
  | .junk _, _ => by simp [SV.ids]
theorem idsLB_spec {m : Mem} : (l : List SV) → idsLB m l = true → idsL (fun i => (look m i).isSome = true) l
  | [], _ => by simp [idsL]
  | v :: vs, h => by simp only [idsLB, Bool.and_eq_true] at h; simp only [idsL]; exact ⟨idsB_spec v h.1, idsLB_spec vs h.2⟩
end

def Blk.idsB (m : Mem) : Blk → Bool
  | .st _ ps => idsLB m ps
  | .dyn _ _ _ => true

def memIds (m : Mem) : Mem → Bool
  | [] => true
  | (_, b) :: r => b.idsB m && memIds m r

/-- S' says less than S. -/
structure Weak (S S' : St) : Prop where
  slots : slotsW 0 S.tmps S'.tmps
  mem : memW S.mem S'.mem
  ids : idsLB S'.mem S'.tmps = true
  mids : memIds S'.mem S'.mem = true

theorem memW_look {m : Mem} : ∀ {m' : Mem}, memW m m' → ∀ i b, look m' i = some b → look m i = some b ∧ b.nj = true
  | [], _, i, b, hl => by cases hl
  | (j, c) :: r, h, i, b, hl => by
    simp only [look] at hl
    split at hl
    · rename_i hj
      have := Nat.eq_of_beq_eq_true hj
      subst this
      cases hl
      exact ⟨h.1, h.2.1⟩
    · exact memW_look h.2.2 i b hl

theorem memIds_look {m : Mem} : ∀ {m' : Mem}, memIds m m' = true → ∀ i b, look m' i = some b → b.ids (fun i => (look m i).isSome = true)
  | [], _, i, b, hl => by cases hl
  | (j, c) :: r, h, i, b, hl => by
    simp only [memIds, Bool.and_eq_true] at h
    simp only [look] at hl
    split at hl
    · cases hl
      cases c with
      | st o ps => exact idsLB_spec ps h.1
      | dyn o k l => trivial
    · exact memIds_look h.2 i b hl

theorem slotsW_den (ρ : Env) (f : Nat → Value) : ∀ (i : Nat) (xs ys : List SV), slotsW i xs ys → (∀ j, j < xs.length → f (i + j) = (denL ρ xs).getD j undef) → denL (ρ.withJunk f) ys = denL ρ xs
  | _, [], [], _, _ => by simp [denL]
  | _, [], _ :: _, h, _ => h.elim
  | _, _ :: _, [], h, _ => h.elim
  | i, x :: xs, y :: ys, h, hf => by
    simp only [slotsW] at h
    obtain ⟨h1, h2⟩ := h
    have ih := slotsW_den ρ f (i + 1) xs ys h2 (fun j hj => by
      have := hf (j + 1) (by simp; omega)
      simp only [denL, List.getD_cons_succ] at this
      rw [← this]; congr 1; omega)
    simp only [denL, ih]
    congr 1
    split at h1
    · subst h1
      have := hf 0 (by simp)
      simp only [denL, List.getD_cons_zero, Nat.add_zero] at this
      simp [SV.den, Env.withJunk, this]
    · obtain ⟨rfl, hn⟩ := h1
      exact SV.den_junk ρ f _ hn

theorem slotsW_wf : ∀ (i : Nat) (xs ys : List SV), slotsW i xs ys → (∀ v ∈ xs, wf v) → ∀ v ∈ ys, wf v
  | _, [], [], _, _, v, hv => by cases hv
  | _, [], _ :: _, h, _, _, _ => h.elim
  | _, _ :: _, [], h, _, _, _ => h.elim
  | i, x :: xs, y :: ys, h, hw, v, hv => by
    simp only [slotsW] at h
    rcases List.mem_cons.1 hv with rfl | hv
    · have h1 := h.1
      split at h1
      · simp only [wf]
      · obtain ⟨rfl, -⟩ := h1; exact hw _ (by simp)
    · exact slotsW_wf (i + 1) xs ys h.2 (fun u hu => hw u (by simp [hu])) v hv

theorem Rel.weaken {Γ : Gam} {ρ : Env} {S S' : St} {a : Act} {w : World} (h : Rel Γ ρ S a w) (hw : Weak S S') (hn : Γ.n0 ≤ S'.next) : ∃ ρ', Rel Γ ρ' S' a w := by
  refine ⟨ρ.withJunk fun j => (denL ρ S.tmps).getD j undef, ?_, h.df, ?_, ?_, h.below, ⟨h.pin.blk, h.pin.off, h.pin.cap⟩, hn, slotsW_wf 0 _ _ hw.slots h.wfT, idsLB_spec _ hw.ids⟩
  · rw [h.tm, slotsW_den ρ _ 0 S.tmps S'.tmps hw.slots (fun j _ => by simp)]
  · intro i b hl
    obtain ⟨h1, h2⟩ := memW_look hw.mem i b hl
    obtain ⟨hok, -⟩ := h.mem i b h1
    have hc := Blk.cells_junk ρ (fun j => (denL ρ S.tmps).getD j undef) h2
    refine ⟨⟨hok.atoms, ?_, ?_, hok.theirs⟩, memIds_look hw.mids i b hl⟩
    · rw [hc]; exact hok.cell
    · rw [hc]; exact hok.mine
  · intro i j b c hi hj
    exact h.dj i j b c (memW_look hw.mem i b hi).1 (memW_look hw.mem j c hj).1

theorem Comes.weaken {P : Program} {Γ : Gam} {c : Code} {S S1 S2 : St} {e : Ex} (h : Comes P Γ c S e S1) (hw : Weak S1 S2) (hn : Γ.n0 ≤ S2.next) : Comes P Γ c S e S2 :=
  fun ρ a w hrel => wp_mono (h ρ a w hrel) fun _ _ _ ⟨hx, _, hr⟩ => ⟨hx, hr.weaken hw hn⟩

/-! ### A loop with an invariant -/
section
variable {P : Program} {Γ : Gam} {cx : Cx} {draw : Array Oper → St → T St} {bl : Blocks}

/-- A block that holds a loop: 'Inv i': the state at a round's head; a round either comes to another head, lower, or leaves the block for 'Out'. -/
theorem loop_block (hc : CxOk P Γ.G cx) (hg : GlobOk Γ) (h0 : Γ.G Γ.w0) (hd : DrawOk P Γ draw) {id : Nat} {body : Code} (hbl : BlocksIn P Γ bl body) {ι : Type} (Inv : ι → St) (μ : ι → Nat) (ok : ι → Prop) (Out : St) (fuel : Nat)
    (hn : ∀ i, ok i → Γ.n0 ≤ (Inv i).next) (hno : Γ.n0 ≤ Out.next)
    (round : ∀ i, ok i → (exec cx draw bl fuel body (Inv i)).good fun r => match r.1 with
      | .normal => ∃ i', ok i' ∧ Weak r.2 (Inv i') ∧ μ i' < μ i
      | .exit j => j = id ∧ Weak r.2 Out
      | .ret => False) :
    ∀ i, ok i → Comes P Γ (.block id (.loop body)) (Inv i) .normal Out := by
  have key : ∀ (n : Nat) (i : ι), μ i ≤ n → ok i → ∀ ρ a w, Rel Γ ρ (Inv i) a w → Code.rounds P body (Exit.inBlock id fun x a' w' => x = Ex.normal.to ∧ ∃ ρ', Rel Γ ρ' Out a' w') (n + 1) a w := by
    intro n
    induction n with
    | zero =>
      intro i hle hi ρ a w hrel
      rw [rounds_succ]
      obtain ⟨⟨e, S1⟩, hr, hq⟩ := T.reach_of_good (round i hi)
      refine wp_mono ((exec_sound hc hg h0 hd fuel).1 body _ S1 e hbl hr ρ a w hrel) fun x a' w' ⟨hx, ρ', hr'⟩ => ?_
      subst hx
      cases e with
      | normal => obtain ⟨i', -, -, hlt⟩ := hq; omega
      | exit j =>
        obtain ⟨hj, hw⟩ := hq
        simp only [Ex.to, Exit.then, Exit.inBlock]
        rw [if_pos hj]
        exact ⟨trivial, hr'.weaken hw hno⟩
      | ret => exact hq.elim
    | succ n ih =>
      intro i hle hi ρ a w hrel
      rw [rounds_succ]
      obtain ⟨⟨e, S1⟩, hr, hq⟩ := T.reach_of_good (round i hi)
      refine wp_mono ((exec_sound hc hg h0 hd fuel).1 body _ S1 e hbl hr ρ a w hrel) fun x a' w' ⟨hx, ρ', hr'⟩ => ?_
      subst hx
      cases e with
      | normal =>
        obtain ⟨i', hi', hw, hlt⟩ := hq
        obtain ⟨ρ2, hr2⟩ := hr'.weaken hw (hn i' hi')
        exact ih i' (by omega) hi' ρ2 a' w' hr2
      | exit j =>
        obtain ⟨hj, hw⟩ := hq
        simp only [Ex.to, Exit.then, Exit.inBlock]
        rw [if_pos hj]
        exact ⟨trivial, hr'.weaken hw hno⟩
      | ret => exact hq.elim
  intro i hi ρ a w hrel
  exact wp_block (wp_loop_rounds (μ i + 1) (key (μ i) i (Nat.le_refl _) hi ρ a w hrel))
end

/-! ### A function's contract -/
/-- A value that says the same under every valuation, and names no block. -/
structure Closed (v : SV) : Prop where
  den : ∀ ρ ρ', v.den ρ = v.den ρ'
  ids : ∀ p, v.ids p
  wf : wf v

/-- The world in which the listed variables hold what is told. -/
structure GlobIs (G : World → Prop) (gm : Mem) : Prop where
  atoms : ∀ i b, look gm i = some b → b.atoms ∧ b.own = false ∧ (∀ p, b.ids p) ∧ 1000000 ≤ i
  cell : ∀ w, G w → ∀ i b, look gm i = some b → i - 1000000 < w.heap.size ∧ ∀ ρ j v, (b.cells ρ)[j]? = some v → w.cell? ⟨i - 1000000, j, none⟩ = some v

theorem entry_rel {G : World → Prop} {gm : Mem} (hgm : GlobIs G gm) {args : List SV} (hargs : ∀ x ∈ args, Closed x) (n : Nat) (ρ : Env) (w : World) (hw : G w) :
    let ρ0 : Env := ⟨fun i => i - 1000000, fun _ => 0, fun _ => 0, ρ.junk⟩
    Rel ⟨w, ρ0, 0, G⟩ ρ0 { tmps := entryTmps args n, mem := gm, next := 0 } { tmps := (denL ρ0 (entryTmps args n)).toArray, defers := [] } w := by
  refine ⟨rfl, rfl, ?_, ?_, Below.refl _ _, ⟨fun _ _ => rfl, fun _ _ => rfl, fun _ _ => rfl⟩, Nat.le_refl _, ?_, ?_⟩
  · intro i b hl
    obtain ⟨h1, h2, h3, h4⟩ := hgm.atoms i b hl
    obtain ⟨h5, h6⟩ := hgm.cell w hw i b hl
    exact ⟨⟨h1, fun j v hj => by simpa using h6 _ j v hj, fun ho => (by rw [h2] at ho; cases ho), fun _ => h5⟩, h3 _⟩
  · intro i j b c hi _ hob
    rw [(hgm.atoms i b hi).2.1] at hob; cases hob
  · intro v hv
    simp only [entryTmps, List.mem_append, List.mem_replicate] at hv
    rcases hv with hv | ⟨-, rfl⟩
    · exact (hargs v hv).wf
    · simp only [wf]
  · refine idsL_iff.2 fun v hv => ?_
    simp only [entryTmps, List.mem_append, List.mem_replicate] at hv
    rcases hv with hv | ⟨-, rfl⟩
    · exact (hargs v hv).ids _
    · simp only [SV.ids]

theorem fn_ok {P : Program} {G : World → Prop} {cx : Cx} (hc : CxOk P G cx) {gm : Mem} (hgm : GlobIs G gm) {f : FuncId} {fn : Func} {c : Code} (hf : P.funcs[f]? = some fn) (hb : fn.body = some c) {bl : Blocks} {fuel : Nat} {args : List SV} {v : SV}
    (hargs : ∀ x ∈ args, Closed x) (hv : Closed v) (hbl : ∀ Γ : Gam, Γ.G = G → Γ.G Γ.w0 → GlobOk Γ → Γ.n0 = 0 → BlocksIn P Γ bl c)
    (hr : (runFn cx (drawS cx) bl fuel c fn.ntmps fn.results.toList args gm 0).good fun r => r.1 = v) (ρ : Env) (w : World) (hw : G w) :
    Calls P f (denL ρ args).toArray w (fun e w' => e = .returned (v.den ρ) ∧ Below w.heap.size w w') := by
  obtain ⟨⟨u, S'⟩, hreach, hu⟩ := T.reach_of_good hr
  simp only at hu
  subst hu
  have hrel := entry_rel hgm hargs fn.ntmps ρ w hw
  have hg : GlobOk ⟨w, ⟨fun i => i - 1000000, fun _ => 0, fun _ => 0, ρ.junk⟩, 0, G⟩ := fun g => ⟨by simp [gid], rfl⟩
  have hcall := runFn_sound (Γ := ⟨w, ⟨fun i => i - 1000000, fun _ => 0, fun _ => 0, ρ.junk⟩, 0, G⟩) hc hg hw (drawS_sound hc hg hw) hf hb (hbl _ rfl hw hg rfl) hreach hrel
  have hden : (denL ⟨fun i => i - 1000000, fun _ => 0, fun _ => 0, ρ.junk⟩ args) = denL ρ args := by
    rw [denL_eq, denL_eq]
    exact List.map_congr_left fun x hx => (hargs x hx).den _ _
  rw [hden] at hcall
  exact hcall.mono fun e w' ⟨ρ', a', he, hr'⟩ => ⟨by rw [he, hv.den ρ' ρ], hr'.below⟩
end Go.Sx
