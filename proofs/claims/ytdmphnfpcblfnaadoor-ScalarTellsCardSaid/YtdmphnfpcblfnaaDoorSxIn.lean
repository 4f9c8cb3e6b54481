import Derived.Test.YtdmphnfpcblfnaaDoorSxTb
/- The symbolic layer: functions that are walked into where they are called (closures that write what they hold). -/
namespace Go.Sx
open Go.RowKit (Below)

/-- Names are below the next one, or a variable's. -/
def namesOk (n : Nat) : Mem → Bool
  | [] => true
  | (i, _) :: m => (match Nat.blt i n with
    | true => true
    | false => Nat.ble 1000000 i) && namesOk n m

def plainB : SV → Bool
  | .lit _ _ | .int _ _ | .tt | .ff | .bool _ => true
  | .tup [] => true
  | _ => false

def inlOkB (S : St) (v : SV) (S2 : St) : Bool := namesOk S.next S.mem && plainB v && memNj S2.mem S2.mem && keysOk S2.mem && idsLB S2.mem S.tmps && memIds S2.mem S2.mem

/-- A function walked into. -/
def inlFn (cx : Cx) (bl : Blocks) (fuel : Nat) (fn : Func) (c : Code) (args : List SV) (S : St) : T (SV × St) :=
  (runFn cx (drawS cx) bl fuel c fn.ntmps fn.results.toList args S.mem S.next).bind fun r => ifT (inlOkB S r.1 r.2) (.ret (r.1, ⟨S.tmps, r.2.mem, r.2.next⟩))

theorem namesOk_spec {n : Nat} : ∀ {m : Mem}, namesOk n m = true → ∀ i, (look m i).isSome = true → i < n ∨ 1000000 ≤ i
  | [], _, i, h => by simp [look] at h
  | (j, b) :: m, hk, i, h => by
    simp only [namesOk, Bool.and_eq_true] at hk
    simp only [look] at h
    split at h
    · rename_i hj
      have := Nat.eq_of_beq_eq_true hj
      subst this
      have h1 := hk.1
      split at h1
      · rename_i hb; exact .inl (Nat.le_of_ble_eq_true hb)
      · exact .inr (Nat.le_of_ble_eq_true h1)
    · exact namesOk_spec hk.2 i h

theorem memNj_look {m : Mem} : ∀ {l : Mem}, memNj m l = true → ∀ i b, look l i = some b → b.nj = true
  | [], _, i, b, h => by cases h
  | (j, c) :: l, hk, i, b, h => by
    simp only [memNj, Bool.and_eq_true] at hk
    simp only [look] at h
    split at h
    · cases h; exact hk.1
    · exact memNj_look hk.2 i b h

theorem plainB_spec {v : SV} (h : plainB v = true) : wf v ∧ (∀ p, v.ids p) ∧ ∀ ρ ρ', v.den ρ = v.den ρ' := by
  unfold plainB at h
  split at h
  all_goals first
    | (cases h; done)
    | exact ⟨by simp only [wf, wfL], fun p => by simp only [SV.ids, idsL], fun ρ ρ' => by simp only [SV.den, denL]⟩

theorem inlFn_sound {P : Program} {Γ : Gam} {cx : Cx} (hc : CxOk P Γ.G cx) (h0 : Γ.G Γ.w0) (hg : GlobOk Γ) {bl : Blocks} {fuel : Nat} {f : FuncId} {fn : Func} {c : Code} (hf : P.funcs[f]? = some fn) (hb : fn.body = some c)
    (hbl : ∀ Γ' : Gam, Γ'.G = Γ.G → Γ'.G Γ'.w0 → GlobOk Γ' → BlocksIn P Γ' bl c) :
    ∀ args S v S', (∀ x ∈ args, wf x) → idsL S.has args → T.Reach (inlFn cx bl fuel fn c args S) (v, S') → ∀ ρ a w, Rel Γ ρ S a w →
      Calls P f (denL ρ args).toArray w (fun e w' => ∃ ρ', e = .returned (v.den ρ') ∧ Rel Γ ρ' S' a w' ∧ wf v ∧ v.ids S'.has) := by
  intro args S v S' hwf hids hr ρ a w hrel
  unfold inlFn at hr
  rw [T.reach_bind] at hr
  obtain ⟨⟨v2, S2⟩, h1, h2⟩ := hr
  obtain ⟨hk, h2⟩ := ifT_reach h2
  rw [T.reach_ret] at h2
  cases h2
  simp only [inlOkB, Bool.and_eq_true] at hk
  obtain ⟨⟨⟨⟨⟨k1, k2⟩, k3⟩, k4⟩, k5⟩, k6⟩ := hk
  let Γ' : Gam := ⟨Γ.w0, ρ, S.next, Γ.G⟩
  have hg' : GlobOk Γ' := fun g => by
    obtain ⟨e1, e2⟩ := hg g
    have p1 := hrel.pin.blk (gid g) (.inr (by simp [gid]))
    have p2 := hrel.pin.off (gid g) (.inr (by simp [gid]))
    exact ⟨p1.trans e1, p2.trans e2⟩
  have hrel' : Rel Γ' ρ { tmps := entryTmps args fn.ntmps, mem := S.mem, next := S.next } { tmps := (denL ρ (entryTmps args fn.ntmps)).toArray, defers := [] } w := by
    refine ⟨rfl, rfl, hrel.mem, hrel.dj, hrel.below, ⟨fun _ _ => rfl, fun _ _ => rfl, fun _ _ => rfl⟩, Nat.le_refl _, fun x hx => ?_, idsL_iff.2 fun x hx => ?_⟩
    · simp only [entryTmps, List.mem_append, List.mem_replicate] at hx
      rcases hx with hx | ⟨-, rfl⟩
      · exact hwf x hx
      · simp only [wf]
    · simp only [entryTmps, List.mem_append, List.mem_replicate] at hx
      rcases hx with hx | ⟨-, rfl⟩
      · exact idsL_iff.1 hids x hx
      · simp only [SV.ids]
  have hcx' : CxOk P Γ'.G cx := hc
  have hcall := runFn_sound (Γ := Γ') hcx' hg' h0 (drawS_sound hcx' hg' h0) hf hb (hbl Γ' rfl h0 hg') h1 hrel'
  refine hcall.mono fun e w' ⟨ρ', a', he, hr'⟩ => ?_
  obtain ⟨p1, p2, p3⟩ := plainB_spec k2
  have hag : Agree S.has ρ (ρ'.withJunk ρ.junk) := by
    have hpin : ∀ i, S.has i → Γ'.pinned i := fun i hi => namesOk_spec k1 i hi
    exact ⟨fun i hi => hr'.pin.blk i (hpin i hi), fun i hi => hr'.pin.off i (hpin i hi), fun i hi => hr'.pin.cap i (hpin i hi), rfl⟩
  refine ⟨ρ'.withJunk ρ.junk, by rw [he, p3 ρ' (ρ'.withJunk ρ.junk)], ?_, p1, p2 _⟩
  have hcells : ∀ i b, look S2.mem i = some b → b.cells (ρ'.withJunk ρ.junk) = b.cells ρ' := fun i b hl => Blk.cells_junk ρ' ρ.junk (memNj_look k3 i b hl)
  refine ⟨?_, hrel.df, ?_, ?_, hr'.below, ?_, Nat.le_trans hrel.nx hr'.nx, hrel.wfT, idsLB_spec _ k5⟩
  · show a.tmps = (denL (ρ'.withJunk ρ.junk) S.tmps).toArray
    rw [hrel.tm, denL_agree hag _ hrel.idT]
  · intro i b hl
    obtain ⟨hok, hi⟩ := hr'.mem i b hl
    have hcc := hcells i b hl
    refine ⟨⟨hok.atoms, ?_, ?_, hok.theirs⟩, memIds_look k6 i b hl⟩
    · rw [hcc]; exact hok.cell
    · rw [hcc]; exact hok.mine
  · intro i j b c' hi hj
    exact hr'.dj i j b c' hi hj
  · have hmono : ∀ i, Γ.pinned i → Γ'.pinned i := fun i hi => by
      rcases hi with hi | hi
      · exact .inl (Nat.lt_of_lt_of_le hi hrel.nx)
      · exact .inr hi
    exact ⟨fun i hi => (hr'.pin.blk i (hmono i hi)).trans (hrel.pin.blk i hi), fun i hi => (hr'.pin.off i (hmono i hi)).trans (hrel.pin.off i hi), fun i hi => (hr'.pin.cap i (hmono i hi)).trans (hrel.pin.cap i hi)⟩

/-- One function that is walked into. -/
def inlOne (g : FuncId) (h : List SV → St → T (SV × St)) : FuncId → Option (List SV → St → T (SV × St)) := fun i => match Nat.beq g i with
  | true => some h
  | false => none

def Cx.withInl (cx : Cx) (i : FuncId → Option (List SV → St → T (SV × St))) : Cx := ⟨cx.tab, cx.ext, cx.fn, i⟩

theorem cxInl_ok {P : Program} {G : World → Prop} {cx : Cx} (hc : CxOk P G cx) {bl : Blocks} {fuel : Nat} {f : FuncId} {fn : Func} {c : Code} (hf : P.funcs[f]? = some fn) (hb : fn.body = some c) (hent : ∀ args w, (callFunc f args).run P w = .ok (.enter f args) w)
    (hbl : ∀ Γ' : Gam, Γ'.G = G → Γ'.G Γ'.w0 → GlobOk Γ' → BlocksIn P Γ' bl c) : CxOk P G (cx.withInl (inlOne f (inlFn cx bl fuel fn c))) := by
  refine ⟨hc.tab, hc.ext, hc.fn, hc.keep, hc.mixed, fun Γ hG h0 hg g h hh => ?_⟩
  simp only [Cx.withInl, inlOne] at hh
  split at hh
  · rename_i hj
    have := Nat.eq_of_beq_eq_true hj
    subst this
    cases hh
    subst hG
    exact ⟨hent, inlFn_sound hc h0 hg hf hb hbl⟩
  · cases hh
/-- What is taken of less holds of more. -/
theorem FnOk.mono {P : Program} {G G' : World → Prop} {g : FuncId} {spec : List SV → T SV} (h : FnOk P G g spec) (hG : ∀ w, G' w → G w) : FnOk P G' g spec :=
  ⟨h.closed, h.ids, h.enters, fun args v hw hr ρ w hg => h.call args v hw hr ρ w (hG w hg)⟩

end Go.Sx
