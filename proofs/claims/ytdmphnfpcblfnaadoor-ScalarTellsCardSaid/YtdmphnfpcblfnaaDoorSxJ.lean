import Derived.Test.YtdmphnfpcblfnaaDoorSxI
/- The symbolic layer, part J: an operation as a step of the symbolic state, and that the step is the operation's. -/
namespace Go.Sx
open Go.RowKit (Below)

def loadS (cx : Cx) (S : St) (t : TypeId) (x : SV) : T SV :=
  match cx.tab t, x with
  | some ti, .ptr b o y => match look S.mem b with
    | some blk => match TypeDesc.isAggB ti.d with
      | true => readBlk blk o y ti.sz false
      | false => readBlk blk o y 1 true
    | none => .fail "load: no such block"
  | _, _ => .fail "load"

/-- What an operation does: a value for its slot, a block at most. -/
structure Eff where
  v : SV
  w : Option (Nat × Blk)

def memE (m : Mem) : Option (Nat × Blk) → Mem
  | some (i, b) => upd m i b
  | none => m

def Eff.on (S : St) (dst : Option Tmp) (e : Eff) : St := ({ S with mem := memE S.mem e.w } : St).put dst e.v

def allocE (S : St) (ps : List SV) : T Eff :=
  match look S.mem S.next, Nat.blt S.next 1000000 with
  | none, true => .ret ⟨.ptr S.next 0 (.lit 0), some (S.next, .st true ps)⟩
  | _, _ => .fail "alloc: the number is taken"

def storeE (cx : Cx) (S : St) (t : TypeId) (x v : SV) : T Eff :=
  match cx.tab t, x with
  | some ti, .ptr b o y => match look S.mem b with
    | some blk => match blk.own with
      | true => (atomsOf v).bind fun vs => match Nat.beq (widthL vs) ti.sz with
        | true => (writeBlk blk o y ti.sz vs).bind fun blk' => .ret ⟨.raw undef, some (b, blk')⟩
        | false => .fail "store: size"
      | false => .fail "store: into what came in"
    | none => .fail "store: no such block"
  | _, _ => .fail "store"

def copyE (cx : Cx) (S : St) (t : TypeId) (x y : SV) : T Eff :=
  match cx.tab t, x, y with
  | some ti, .slice b o z len _, .slice b' o' z' len' _ => match ti.d, len, len' with
    | .slice e, .lit n, .lit m => match cx.tab e, look S.mem b, look S.mem b' with
      | some te, some blk, some blk' => match blk.own with
        | true => (readBlk blk' o' z' (Nat.min m n * te.sz) false).bind fun v => (atomsOf v).bind fun vs => (writeBlk blk o z (Nat.min m n * te.sz) vs).bind fun blk'' =>
          match Nat.beq (widthL vs) (Nat.min m n * te.sz) with
          | true => .ret ⟨.lit .i64 (Nat.min m n), some (b, blk'')⟩
          | false => .fail "copy: size"
        | false => .fail "copy: into what came in"
      | _, _, _ => .fail "copy: no such block"
    | _, _, _ => .fail "copy: lengths"
  | _, _, _ => .fail "copy"

def effS (cx : Cx) (S : St) (o : Oper) : T Eff :=
  match pureS cx o (evS S) with
  | some t => t.bind fun v => .ret ⟨v, none⟩
  | none => match o.op with
    | .alloc t => match cx.tab t with
      | some ti => (atomsOf ti.z).bind fun ps => allocE S ps
      | none => .fail "alloc: type"
    | .box _ x => (atomsOf (evS S x)).bind fun ps => allocE S ps
    | .load t x => (loadS cx S t (evS S x)).bind fun v => .ret ⟨v, none⟩
    | .store t x v => storeE cx S t (evS S x) (evS S v)
    | .call c => match c.callee with
      | .value f => match evS S f with
        | .fn g caps => match cx.fn g with
          | some spec => (spec (c.args.toList.map (evS S) ++ caps)).bind fun v => .ret ⟨v, none⟩
          | none => .fail "call: no contract"
        | _ => .fail "call: of what"
      | .builtin .copy => match c.argTypes[0]?, c.args[0]?, c.args[1]? with
        | some t, some x, some y => copyE cx S t (evS S x) (evS S y)
        | _, _, _ => .fail "copy: arguments"
      | _ => .fail "call: a builtin"
    | _ => .fail "an operation that is not known here"


/-- An operation as a step of the symbolic state. -/
def stepS (cx : Cx) (S : St) (o : Oper) : T St := (effS cx S o).bind fun e => .ret { e.on S o.dst with next := S.next + 1 }

theorem Rel.next {Γ : Gam} {ρ : Env} {S : St} {a : Act} {w : World} (h : Rel Γ ρ S a w) {n : Nat} (hn : Γ.n0 ≤ n) : Rel Γ ρ { S with next := n } a w :=
  ⟨h.tm, h.df, h.mem, h.dj, h.below, h.pin, hn, h.wfT, h.idT⟩

theorem Rel.eval_eq {Γ : Gam} {ρ : Env} {S : St} {a : Act} {w : World} (h : Rel Γ ρ S a w) (hg : GlobOk Γ) : a.eval = fun x => (evS S x).den ρ := funext fun x => h.ev hg x

theorem readOpn_ids {p : Nat → Prop} {ps : List SV} {o i c : Nat} {sc : Bool} {v : SV} (hr : T.Reach (readOpn ps o i c sc) v) : v.ids p := by
  unfold readOpn at hr
  split at hr
  · rw [T.reach_need] at hr
    obtain ⟨-, hr⟩ := hr
    split at hr <;> (rw [T.reach_ret] at hr; subst hr; simp [SV.ids])
  · exact (T.reach_fail hr).elim

theorem readDyn_ids {p : Nat → Prop} {k : IntKind} {l : List Int} {i c : Nat} {sc : Bool} {v : SV} (hr : T.Reach (readDyn k l i c sc) v) : v.ids p := by
  unfold readDyn at hr
  rw [T.reach_need] at hr
  obtain ⟨-, hr⟩ := hr
  split at hr <;> (rw [T.reach_ret] at hr; subst hr; simp [SV.ids])

theorem readBlk_ids {p : Nat → Prop} {b : Blk} {o c : Nat} {x : SN} {sc : Bool} {v : SV} (h : b.ids p) (hr : T.Reach (readBlk b o x c sc) v) : v.ids p := by
  unfold readBlk at hr
  split at hr
  · split at hr
    · exact readSt_ids h hr
    · exact readOpn_ids hr
    · exact (T.reach_fail hr).elim
  · split at hr
    · exact readDyn_ids hr
    · exact readDyn_ids hr
    · exact (T.reach_fail hr).elim

section
variable {P : Program} {Γ : Gam} {cx : Cx}

/-- A new row of cells. -/
theorem Rel.newRow {ρ : Env} {S : St} {a : Act} {w : World} (h : Rel Γ ρ S a w) {ps : List SV} {e : Eff} (hr : T.Reach (allocE S ps) e) (hat : ∀ p ∈ ps, isAtom p) (hid : idsL S.has ps) (el : TypeId) (dst : Option Tmp) {n' : Nat} (hn : Γ.n0 ≤ n') :
    ∃ ρ', Rel Γ ρ' { e.on S dst with next := n' } (a.put dst (.pointer (some ⟨w.heap.size, 0, none⟩))) { w with heap := w.heap.push (.cells (cellsL ρ ps).toArray el) } := by
  unfold allocE at hr
  split at hr
  · rename_i hl hlt
    rw [T.reach_ret] at hr; subst hr
    have hlt : S.next < 1000000 := Nat.le_of_ble_eq_true hlt
    have hni : ¬ Γ.pinned S.next := by
      rintro (hp | hp)
      · have := h.nx; omega
      · omega
    have hb : Below w.heap.size w { w with heap := w.heap.push (.cells (cellsL ρ ps).toArray el) } := ⟨rfl, rfl, rfl, by simp, fun k hk => heap_alloc_lt _ _ hk⟩
    have hnew : ({ w with heap := w.heap.push (.cells (cellsL ρ ps).toArray el) } : World).heap[w.heap.size]? = some (.cells (cellsL ρ ps).toArray el) := by simp
    have := h.alloc (i := S.next) (b := .st true ps) (cap := 0) hb hl hni rfl hat hid (by simp)
      (fun j v hj => by simp only [World.cell?, hnew]; simpa [Blk.cells] using hj)
      (fun j => by simp only [World.frozen?, hnew]; simp) S.next h.nx
    have h2 := this.put dst (v := .ptr S.next 0 (.lit 0)) (by simp only [wf]) (by simp only [SV.ids, SN.ids]; exact ⟨by simp [St.has, look_upd], trivial⟩)
    have hv : (SV.ptr S.next 0 (.lit 0)).den (ρ.set S.next w.heap.size 0 0) = .pointer (some ⟨w.heap.size, 0, none⟩) := by simp [SV.den, SN.den, Env.set]
    rw [hv] at h2
    exact ⟨_, h2.next hn⟩
  · exact (T.reach_fail hr).elim

theorem callFn_wp {o : Oper} {a : Act} {w w' : World} {K : Act → World → Prop} {Q : Exit → Act → World → Prop} {g : FuncId} {args : Array Value} (h : (execOp a.eval o).run P w = .ok (.enter g args) w')
    (hc : Calls P g args w' (fun e w'' => ∃ v, e = .returned v ∧ K (a.put o.dst v) w'')) : o.wp P a w K Q := by
  unfold Oper.wp
  rw [h, Oper.upon_enter]
  exact hc.mono fun e w'' ⟨v, he, hk⟩ => by subst he; exact hk

theorem value_wp {o : Oper} {a : Act} {w w' : World} {K : Act → World → Prop} {Q : Exit → Act → World → Prop} {v : Value} (h : (execOp a.eval o).run P w = .ok (.value v) w') (hk : K (a.put o.dst v) w') : o.wp P a w K Q := by
  unfold Oper.wp
  rw [h, Oper.upon_value]
  exact hk

theorem skip_wp {o : Oper} {a : Act} {w w' : World} {K : Act → World → Prop} {Q : Exit → Act → World → Prop} (h : (execOp a.eval o).run P w = .ok .skip w') (hk : K (a.put o.dst undef) w') : o.wp P a w K Q := by
  unfold Oper.wp
  rw [h, Oper.upon_skip]
  exact hk

theorem load_sound (hc : CxOk P Γ.G cx) {ρ : Env} {S : St} {a : Act} {w : World} (h : Rel Γ ρ S a w) {t : TypeId} {x v : SV} (hr : T.Reach (loadS cx S t x) v) :
    wf v ∧ v.ids S.has ∧ (Instr.loadAt t (x.den ρ)).run P w = .ok (v.den ρ) w := by
  unfold loadS at hr
  split at hr
  · rename_i ti b o y hti
    split at hr
    · rename_i blk hblk
      obtain ⟨hok, hids⟩ := h.mem b blk hblk
      have hagg : (isAgg t).run P w = .ok (TypeDesc.isAggB ti.d) w := run_isAgg (hc.tab _ _ hti)
      have hsz : (Go.sizeOf t).run P w = .ok ti.sz w := run_size (hc.tab _ _ hti)
      split at hr
      · rename_i hag
        obtain ⟨hwf, hg1, hg2⟩ := got_blk (ρ := ρ) (fun e => by cases e) hok.atoms hr
        refine ⟨hwf, readBlk_ids hids hr, ?_⟩
        have hl := run_loadCells P (ρ.blk b) (ρ.off b + (o + y.den ρ)) w (n := ti.sz) (cs := ((blk.cells ρ).drop (o + y.den ρ)).take ti.sz) (by simp; omega) (fun j v hj => by
          rw [List.getElem?_take] at hj
          split at hj
          · rw [List.getElem?_drop] at hj
            have := hok.cell _ _ hj
            rw [show ρ.off b + (o + y.den ρ) + j = ρ.off b + (o + y.den ρ + j) from by omega]; exact this
          · cases hj)
        simp only [SV.den, Instr.loadAt, Instr.sureAddr, loadVar, Sem.run_bind, Sem.run_pure, Result.andThen_ok, hagg, hag, if_true, hsz, hl, hg1]
      · rename_i hag
        obtain ⟨hwf, hg1, hg2⟩ := got_blk (ρ := ρ) (fun e => rfl) hok.atoms hr
        refine ⟨hwf, readBlk_ids hids hr, ?_⟩
        have := hok.cell _ _ hg1
        simp only [SV.den, Instr.loadAt, Instr.sureAddr, loadVar, Sem.run_bind, Sem.run_pure, Result.andThen_ok, hagg, hag, Bool.false_eq_true, if_false, load, Sem.run, this]
    · exact (T.reach_fail hr).elim
  · exact (T.reach_fail hr).elim

theorem one_cells_all {ρ : Env} {ps : List SV} (h : ∀ p ∈ ps, isAtom p) : ∀ v ∈ cellsL ρ ps, one v = true := by
  induction ps with
  | nil => intro v hv; simp [cellsL] at hv
  | cons p ps ih =>
    intro v hv
    simp only [cellsL, List.mem_append] at hv
    rcases hv with hv | hv
    · have hp := h p (by simp)
      cases p <;> simp [SV.den, Value.cells, isAtom] at hv hp
      case ints => obtain ⟨n, -, rfl⟩ := hv; rfl
      case raw u => cases u <;> simp_all [one]
      all_goals (subst hv; rfl)
    · exact ih (fun q hq => h q (by simp [hq])) v hv

/-- Stores into a block of the call's own. -/
theorem write_sound {ρ : Env} {S : St} {a : Act} {w : World} (h : Rel Γ ρ S a w) {b o c : Nat} {y : SN} {blk blk' : Blk} {vs : List SV} (hl : look S.mem b = some blk) (hown : blk.own = true) (hva : ∀ p ∈ vs, isAtom p) (hvi : idsL S.has vs)
    (hw : widthL vs = c) (hr : T.Reach (writeBlk blk o y c vs) blk') :
    ∃ w', (storeCells ⟨ρ.blk b, ρ.off b + (o + y.den ρ), none⟩ (cellsL ρ vs)).run P w = .ok () w' ∧ Rel Γ ρ { S with mem := upd S.mem b blk' } a w' := by
  obtain ⟨hok, hids⟩ := h.mem b blk hl
  obtain ⟨hp, hat, ho⟩ := put_blk (ρ := ρ) hok.atoms hva hw hr
  obtain ⟨m1, m2, m3⟩ := hok.mine hown
  obtain ⟨w', hrun, hst⟩ := run_storeCells P (cellsL ρ vs) (ρ.blk b) (ρ.off b + (o + y.den ρ)) 0 w (one_cells_all hva)
    (fun j hj => by
      have hle := hp.2
      have : o + y.den ρ + j < (blk.cells ρ).length := by omega
      refine ⟨(blk.cells ρ)[o + y.den ρ + j]'this, ?_⟩
      rw [show ρ.off b + (o + y.den ρ) + 0 + j = ρ.off b + (o + y.den ρ + j) from by omega]
      exact hok.cell _ _ (List.getElem?_eq_getElem this))
    (fun j hj => by
      have hle := hp.2
      rw [show ρ.off b + (o + y.den ρ) + 0 + j = ρ.off b + (o + y.den ρ + j) from by omega]
      exact m3 _ (by omega))
  refine ⟨w', hrun, h.store (o := o + y.den ρ) hl hown hp hat ho (writeBlk_ids hids hvi hr) ?_⟩
  simpa using hst

theorem store_sound (hc : CxOk P Γ.G cx) {ρ : Env} {S : St} {a : Act} {w : World} (h : Rel Γ ρ S a w) {t : TypeId} {x v : SV} {e : Eff} (hwf : wf v) (hid : v.ids S.has) (hr : T.Reach (storeE cx S t x v) e) :
    ∃ w', (Instr.storeAt t (x.den ρ) (v.den ρ)).run P w = .ok () w' ∧ Rel Γ ρ { S with mem := memE S.mem e.w } a w' ∧ e.v = .raw undef := by
  unfold storeE at hr
  split at hr
  · rename_i ti b o y hti
    split at hr
    · rename_i blk hblk
      split at hr
      · rename_i hown
        rw [T.reach_bind] at hr
        obtain ⟨vs, hvs, hr⟩ := hr
        split at hr
        · rename_i hw
          have hw := Nat.eq_of_beq_eq_true hw
          rw [T.reach_bind] at hr
          obtain ⟨blk', hb', hr⟩ := hr
          rw [T.reach_ret] at hr; subst hr
          have hva := atomsOf_atoms hwf hvs
          obtain ⟨w', hrun, hrel⟩ := write_sound (P := P) h hblk hown hva (atomsOf_ids hid hvs) hw hb'
          refine ⟨w', ?_, hrel, rfl⟩
          have hsz : (Go.sizeOf t).run P w = .ok ti.sz w := run_size (hc.tab _ _ hti)
          have hcs := atomsOf_cells (ρ := ρ) hvs
          have hlen : (v.den ρ).cells.size = ti.sz := by rw [← Array.length_toList, ← hcs, cellsL_length hva, hw]
          simp only [SV.den, Instr.storeAt, Instr.sureAddr, storeVar, Sem.run_bind, Sem.run_pure, Result.andThen_ok, hsz, Sem.run_ite, hlen, ne_eq, not_true, if_false]
          rw [← hcs]; exact hrun
        · exact (T.reach_fail hr).elim
      · exact (T.reach_fail hr).elim
    · exact (T.reach_fail hr).elim
  · exact (T.reach_fail hr).elim

theorem lenOf_slice {w : World} {a : Option Addr} {n c : Nat} : (Builtin.lenOf (.slice a n c)).run P w = .ok n w := rfl

theorem copy_sound (hc : CxOk P Γ.G cx) {ρ : Env} {S : St} {a : Act} {w : World} (h : Rel Γ ρ S a w) {t : TypeId} {x y : SV} {e : Eff} (hr : T.Reach (copyE cx S t x y) e) (ts : Array TypeId) (ht : ts[0]? = some t) (xs : Array Value)
    (h0 : xs[0]? = some (x.den ρ)) (h1 : xs[1]? = some (y.den ρ)) (T' : TypeId) :
    ∃ w' n, (Builtin.copy_ ts T' xs).run P w = .ok (.int .i64 n) w' ∧ Rel Γ ρ { S with mem := memE S.mem e.w } a w' ∧ e.v = .lit .i64 n := by
  unfold copyE at hr
  split at hr
  · rename_i ti b o z len cap b' o' z' len' cap' hti
    split at hr
    · rename_i el n' m' hd
      split at hr
      · rename_i te blk blk' hte hblk hblk'
        split at hr
        · rename_i hown
          rw [T.reach_bind] at hr
          obtain ⟨v, hv, hr⟩ := hr
          rw [T.reach_bind] at hr
          obtain ⟨vs, hvs, hr⟩ := hr
          rw [T.reach_bind] at hr
          obtain ⟨blk2, hb2, hr⟩ := hr
          split at hr
          · rename_i hw
            have hw := Nat.eq_of_beq_eq_true hw
            rw [T.reach_ret] at hr; subst hr
            obtain ⟨hok', hids'⟩ := h.mem b' blk' hblk'
            obtain ⟨hwf, hg1, hg2⟩ := got_blk (ρ := ρ) (fun e => by cases e) hok'.atoms hv
            have hva := atomsOf_atoms hwf hvs
            have hvi := atomsOf_ids (readBlk_ids hids' hv) hvs
            obtain ⟨w', hrun, hrel⟩ := write_sound (P := P) h hblk hown hva hvi hw hb2
            refine ⟨w', _, ?_, hrel, rfl⟩
            have hu : (underlying t).run P w = .ok (.slice el) w := by rw [run_und (hc.tab _ _ hti), hd]
            have hs : (Go.sizeOf el).run P w = .ok te.sz w := run_size (hc.tab _ _ hte)
            have hcs := atomsOf_cells (ρ := ρ) hvs
            rw [hg1] at hcs
            simp only [Value.cells] at hcs
            have hl := run_loadCells P (ρ.blk b') (ρ.off b' + (o' + z'.den ρ)) w (n := Nat.min m' n' * te.sz) (cs := cellsL ρ vs) (by rw [cellsL_length hva, hw]) (fun j v hj => by
              rw [hcs, List.getElem?_take] at hj
              split at hj
              · rw [List.getElem?_drop] at hj
                have := hok'.cell _ _ hj
                rw [show ρ.off b' + (o' + z'.den ρ) + j = ρ.off b' + (o' + z'.den ρ + j) from by omega]; exact this
              · cases hj)
            simp only [Builtin.copy_, ht, h0, h1, Sem.run_bind, hu, Result.andThen_ok, SV.den, lenOf_slice, SN.den_lit, hs, Builtin.firstCells, hl, hrun, Sem.run_pure, goInt]
          · exact (T.reach_fail hr).elim
        · exact (T.reach_fail hr).elim
      · exact (T.reach_fail hr).elim
    · exact (T.reach_fail hr).elim
  · exact (T.reach_fail hr).elim

theorem Rel.G {ρ : Env} {S : St} {a : Act} {w : World} (h : Rel Γ ρ S a w) (hc : CxOk P Γ.G cx) (h0 : Γ.G Γ.w0) : Γ.G w := hc.keep _ _ h.below h0

theorem effS_sound (hc : CxOk P Γ.G cx) (hg : GlobOk Γ) (h0 : Γ.G Γ.w0) {ρ : Env} {S : St} {a : Act} {w : World} (h : Rel Γ ρ S a w) {o : Oper} {e : Eff} (hr : T.Reach (effS cx S o) e) {n' : Nat} (hn : Γ.n0 ≤ n') {K : Act → World → Prop} {Q : Exit → Act → World → Prop}
    (hK : ∀ ρ' a' w', Rel Γ ρ' { e.on S o.dst with next := n' } a' w' → K a' w') : o.wp P a w K Q := by
  have hev := h.eval_eq hg
  unfold effS at hr
  split at hr
  · rename_i t ht
    rw [T.reach_bind] at hr
    obtain ⟨v, hv, hr⟩ := hr
    rw [T.reach_ret] at hr; subst hr
    obtain ⟨h1, h2, h3⟩ := pureS_spec hc (fun x => h.ev_wf x) ht hv
    refine value_wp (v := v.den ρ) (w' := w) ?_ (hK ρ _ _ ((h.put o.dst h1 (h2 _ (fun x _ => h.ev_ids x))).next hn))
    rw [hev]; exact h3 ρ w
  · split at hr
    · -- alloc
      rename_i t hop
      split at hr
      · rename_i ti hti
        have ok := hc.tab _ _ hti
        rw [T.reach_bind] at hr
        obtain ⟨ps, hps, hr⟩ := hr
        obtain ⟨ρ', hrel⟩ := h.newRow hr (atomsOf_atoms ok.wf hps) (atomsOf_ids (ok.ids _) hps) t o.dst hn
        refine value_wp (v := .pointer (some ⟨w.heap.size, 0, none⟩)) (w' := { w with heap := w.heap.push (.cells (cellsL ρ ps).toArray t) }) ?_ (hK ρ' _ _ hrel)
        have hcs := atomsOf_cells (ρ := ρ) hps
        have : (ti.z.den ρ).cells = (cellsL ρ ps).toArray := by rw [hcs]
        simp only [execOp, hop, Instr.alloc, Sem.run_bind, run_zero ok ρ, Result.andThen_ok, newVar, newRow, run_newObj, Sem.run_pure, this]
      · exact (T.reach_fail hr).elim
    · -- box
      rename_i t x hop
      rw [T.reach_bind] at hr
      obtain ⟨ps, hps, hr⟩ := hr
      obtain ⟨ρ', hrel⟩ := h.newRow hr (atomsOf_atoms (h.ev_wf x) hps) (atomsOf_ids (h.ev_ids x) hps) t o.dst hn
      refine value_wp (v := .pointer (some ⟨w.heap.size, 0, none⟩)) (w' := { w with heap := w.heap.push (.cells (cellsL ρ ps).toArray t) }) ?_ (hK ρ' _ _ hrel)
      have hcs := atomsOf_cells (ρ := ρ) hps
      have : ((evS S x).den ρ).cells = (cellsL ρ ps).toArray := by rw [hcs]
      simp only [execOp, hop, hev, Instr.box, Sem.run_bind, Result.andThen_ok, newVar, newRow, run_newObj, Sem.run_pure, this]
    · -- load
      rename_i t x hop
      rw [T.reach_bind] at hr
      obtain ⟨v, hv, hr⟩ := hr
      rw [T.reach_ret] at hr; subst hr
      obtain ⟨h1, h2, h3⟩ := load_sound hc h hv
      refine value_wp (v := v.den ρ) (w' := w) ?_ (hK ρ _ _ ((h.put o.dst h1 h2).next hn))
      simp only [execOp, hop, hev, Sem.run_bind, h3, Result.andThen_ok, Sem.run_pure]
    · -- store
      rename_i t x v hop
      obtain ⟨w', hrun, hrel, hv⟩ := store_sound hc h (h.ev_wf v) (h.ev_ids v) hr
      have := hrel.put o.dst (v := .raw undef) (by simp only [wf]) (by simp only [SV.ids])
      refine skip_wp (w' := w') ?_ (hK ρ _ _ ?_)
      · simp only [execOp, hop, hev, Sem.run_bind, hrun, Result.andThen_ok, Sem.run_pure]
      · have h2 := this.next hn
        simp only [SV.den] at h2
        unfold Eff.on
        rw [hv]; exact h2
    · -- call
      rename_i c hop
      split at hr
      · rename_i f hcal
        split at hr
        · rename_i g caps hf
          split at hr
          · rename_i spec hspec
            rw [T.reach_bind] at hr
            obtain ⟨v, hv, hr⟩ := hr
            rw [T.reach_ret] at hr; subst hr
            obtain ⟨s1, s2, s3⟩ := hc.fn g spec hspec
            have hargs : ∀ x ∈ c.args.toList.map (evS S) ++ caps, wf x := fun x hx => by
              rw [List.mem_append] at hx
              rcases hx with hx | hx
              · simp at hx; obtain ⟨y, -, rfl⟩ := hx; exact h.ev_wf _
              · have := h.ev_wf f; rw [hf] at this; simp only [wf] at this; exact wfL_iff.1 this x hx
            have hids : ∀ x ∈ c.args.toList.map (evS S) ++ caps, x.ids S.has := fun x hx => by
              rw [List.mem_append] at hx
              rcases hx with hx | hx
              · simp at hx; obtain ⟨y, -, rfl⟩ := hx; exact h.ev_ids _
              · have := h.ev_ids f; rw [hf] at this; simp only [SV.ids] at this; exact idsL_iff.1 this x hx
            have e : (denL ρ (c.args.toList.map (evS S) ++ caps)).toArray = (c.args.map fun x => (evS S x).den ρ) ++ (denL ρ caps).toArray := by
              apply Array.ext'; simp [denL_eq]
            refine callFn_wp (g := g) (args := (denL ρ (c.args.toList.map (evS S) ++ caps)).toArray) (w' := w) ?_ ((s3 _ _ hargs hv ρ w (h.G hc h0)).mono fun e' w' ⟨he, hb⟩ => ⟨v.den ρ, he, hK ρ _ _ (((h.onto hb).put o.dst (s1.wf _ _ hargs hv) (s1.ids _ _ hv _ hids)).next hn)⟩)
            rw [e]
            have hv' : evS S f = .fn g caps := hf
            simp only [execOp, hop, hev, resolve, hcal, hv', SV.den, Deferred.ofValue, Sem.run_bind, Sem.run_pure, Result.andThen_ok, invoke, Array.empty_append]
            exact s2 _ w
          · exact (T.reach_fail hr).elim
        · exact (T.reach_fail hr).elim
      · rename_i hcal
        split at hr
        · rename_i t x y ht hx hy
          obtain ⟨w', n, hrun, hrel, hv⟩ := copy_sound hc h hr c.argTypes ht (c.args.map fun x => (evS S x).den ρ) (by simp [hx]) (by simp [hy]) o.type
          have := hrel.put o.dst (v := .lit .i64 n) (by simp only [wf]) (by simp only [SV.ids])
          refine value_wp (v := .int .i64 n) (w' := w') ?_ (hK ρ _ _ ?_)
          · simp only [execOp, hop, hev, resolve, hcal, Sem.run_bind, Sem.run_pure, Result.andThen_ok, invoke, builtin, hrun]
          · have h2 := this.next hn
            simp only [SV.den] at h2
            unfold Eff.on
            rw [hv]; exact h2
        · exact (T.reach_fail hr).elim
      · exact (T.reach_fail hr).elim
    · exact (T.reach_fail hr).elim

/-- **A step of the symbolic state is the operation's.** -/
theorem stepS_sound (hc : CxOk P Γ.G cx) (hg : GlobOk Γ) (h0 : Γ.G Γ.w0) {ρ : Env} {S S' : St} {a : Act} {w : World} (h : Rel Γ ρ S a w) {o : Oper} (hr : T.Reach (stepS cx S o) S') {K : Act → World → Prop} {Q : Exit → Act → World → Prop}
    (hK : ∀ ρ' a' w', Rel Γ ρ' S' a' w' → K a' w') : o.wp P a w K Q := by
  unfold stepS at hr
  rw [T.reach_bind] at hr
  obtain ⟨e, he, hr⟩ := hr
  rw [T.reach_ret] at hr; subst hr
  exact effS_sound hc hg h0 h he (Nat.le_trans h.nx (Nat.le_succ _)) hK
end
end Go.Sx
