import Derived.Test.YtdmphnfpcblfnaaDoorSxE
/- The symbolic layer, part F: the pure operations, all of them in one function, and what it is worth. -/
namespace Go.Sx

theorem writeWalk_ids {p : Nat → Prop} {ps vs ps' : List SV} {o c : Nat} (h : idsL p ps) (hv : idsL p vs) (hr : T.Reach (writeWalk ps o c vs) ps') : idsL p ps' := by
  unfold writeWalk at hr
  split at hr
  · rename_i a ha
    split at hr
    · rename_i z hz
      rw [T.reach_ret] at hr; subst hr
      exact idsL_append.2 ⟨idsL_append.2 ⟨gather_ids h ha, hv⟩, skipTo_ids h hz⟩
    · exact (T.reach_fail hr).elim
  · exact (T.reach_fail hr).elim

theorem writeSt_ids {p : Nat → Prop} {ps vs ps' : List SV} {o c : Nat} (h : idsL p ps) (hv : idsL p vs) (hr : T.Reach (writeSt ps o c vs) ps') : idsL p ps' := by
  unfold writeSt at hr
  split at hr
  · rename_i bef k n l aft r hf
    obtain ⟨h1, -, -⟩ := findPart_spec hf
    split at hr
    · split at hr
      · split at hr
        · rw [T.reach_ret] at hr; subst hr
          rw [h1, idsL_append] at h
          exact idsL_append.2 ⟨h.1, by simp [SV.ids], h.2.2⟩
        · exact writeWalk_ids h hv hr
      · exact writeWalk_ids h hv hr
    · exact writeWalk_ids h hv hr
  · exact writeWalk_ids h hv hr

theorem writeOpn_ids {p : Nat → Prop} {ps vs ps' : List SV} {o i c : Nat} (h : idsL p ps) (hr : T.Reach (writeOpn ps o i c vs) ps') : idsL p ps' := by
  unfold writeOpn at hr
  split at hr
  · rename_i bef k n l aft r hf
    obtain ⟨h1, -, -⟩ := findPart_spec hf
    split at hr
    · split at hr
      · rw [T.reach_need, T.reach_ret] at hr
        obtain ⟨-, rfl⟩ := hr
        rw [h1, idsL_append] at h
        exact idsL_append.2 ⟨h.1, by simp [SV.ids], h.2.2⟩
      · exact (T.reach_fail hr).elim
    · exact (T.reach_fail hr).elim
  · exact (T.reach_fail hr).elim

theorem writeBlk_ids {p : Nat → Prop} {b b' : Blk} {vs : List SV} {o c : Nat} {x : SN} (h : b.ids p) (hv : idsL p vs) (hr : T.Reach (writeBlk b o x c vs) b') : b'.ids p := by
  unfold writeBlk at hr
  split at hr
  · split at hr
    all_goals (try exact (T.reach_fail hr).elim)
    all_goals (rw [T.reach_bind] at hr; obtain ⟨ps', h1, h2⟩ := hr; rw [T.reach_ret] at h2; subst h2)
    · exact writeSt_ids h hv h1
    · exact writeOpn_ids h h1
  · split at hr
    all_goals (try exact (T.reach_fail hr).elim)
    all_goals (rw [T.reach_bind] at hr; obtain ⟨ps', h1, h2⟩ := hr; rw [T.reach_ret] at h2; subst h2; trivial)

/-! ### Values built of parts -/
def fillS (place : Nat → Option (Nat × Nat)) (ps : List SV) : List (Nat × SV) → T (List SV)
  | [] => .ret ps
  | (i, v) :: rest => match place i with
    | none => .fail "build: no such part"
    | some (off, size) => (atomsOf v).bind fun vs => match Nat.beq (widthL vs) size with
      | true => (writeSt ps off size vs).bind fun ps' => fillS place ps' rest
      | false => .fail "build: a part of the wrong size"

theorem foldl_set (vs : List Value) : ∀ (cs : Array Value) (off k : Nat), off + k + vs.length ≤ cs.size →
    (vs.zipIdx k).foldl (fun cs (p : Value × Nat) => cs.setIfInBounds (off + p.2) p.1) cs = ((cs.toList.take (off + k)) ++ vs ++ cs.toList.drop (off + k + vs.length)).toArray := by
  induction vs with
  | nil => intro cs off k h; simp
  | cons v vs ih =>
    intro cs off k h
    simp only [List.length_cons] at h
    simp only [List.zipIdx_cons, List.foldl_cons]
    rw [ih _ off (k + 1) (by simp; omega)]
    congr 1
    obtain ⟨A⟩ := cs
    simp only [List.setIfInBounds_toArray, List.size_toArray] at h ⊢
    have hA : A = A.take (off + k) ++ A.drop (off + k) := (List.take_append_drop _ _).symm
    generalize hX : A.take (off + k) = X at hA
    generalize hY : A.drop (off + k) = Y at hA
    have hXl : X.length = off + k := by rw [← hX]; simp; omega
    cases Y with
    | nil => rw [hA] at h; simp at h; omega
    | cons y Y =>
      subst hA
      rw [← hXl, List.set_append_right _ _ (Nat.le_refl _), Nat.sub_self, List.set_cons_zero]
      rw [show off + (k + 1) = X.length + 1 from by omega]
      simp only [List.take_length_add_append, List.drop_append, List.append_assoc, List.length_cons]
      rw [List.drop_of_length_le (l := X) (by omega), List.drop_of_length_le (l := X) (by omega)]
      rw [show X.length + 1 + vs.length - X.length = vs.length + 1 from by omega, show X.length + (vs.length + 1) - X.length = vs.length + 1 from by omega]
      simp

theorem fill_part {cs : List Value} {v : Value} {off size : Nat} {cs' : List Value} (hs : v.cells.size = size) (hp : Put cs off v.cells.toList cs') (place : Nat → Option (Nat × Nat)) (i : Nat) (hi : place i = some (off, size)) (rest : List (Nat × Value)) :
    Instr.fill place cs.toArray ((i, v) :: rest) = Instr.fill place cs'.toArray rest := by
  obtain ⟨h1, h2⟩ := hp
  have hl : v.cells.toList.length = v.cells.size := by simp
  rw [hl] at h1 h2
  have hk : (v.cells.zipIdx.foldl (fun cs (x : Value × Nat) => cs.setIfInBounds (off + x.2) x.1) cs.toArray) = cs'.toArray := by
    rw [← Array.foldl_toList, Array.toList_zipIdx, foldl_set _ _ off 0 (by simp; omega), h1]
    simp
  simp only [Instr.fill, hi]
  rw [if_neg (by simp [hs]; omega)]
  congr 1

theorem fillS_spec {place : Nat → Option (Nat × Nat)} : ∀ {parts : List (Nat × SV)} {ps ps' : List SV}, (∀ q ∈ ps, isAtom q) → (∀ x ∈ parts, wf x.2) → T.Reach (fillS place ps parts) ps' →
    (∀ ρ, Instr.fill place (cellsL ρ ps).toArray (parts.map fun x => (x.1, x.2.den ρ)) = some (cellsL ρ ps').toArray) ∧ (∀ q ∈ ps', isAtom q) ∧ (∀ p, idsL p ps → (∀ x ∈ parts, x.2.ids p) → idsL p ps')
  | [], ps, ps', hs, _, h => by
    simp only [fillS, T.reach_ret] at h
    subst h
    exact ⟨fun ρ => rfl, hs, fun p h _ => h⟩
  | (i, v) :: rest, ps, ps', hs, hw, h => by
    simp only [fillS] at h
    split at h
    · exact (T.reach_fail h).elim
    · rename_i off size hi
      rw [T.reach_bind] at h
      obtain ⟨vs, hvs, h⟩ := h
      split at h
      · rename_i hsz
        have hsz := Nat.eq_of_beq_eq_true hsz
        rw [T.reach_bind] at h
        obtain ⟨ps1, h1, h2⟩ := h
        have hv := hw (i, v) (by simp)
        have hva := atomsOf_atoms hv hvs
        have hp := fun ρ => put_st (ρ := ρ) hs hva hsz h1
        obtain ⟨r1, r2, r3⟩ := fillS_spec (hp ⟨id, id, id, fun _ => undef⟩).2 (fun x hx => hw x (by simp [hx])) h2
        refine ⟨fun ρ => ?_, r2, fun p hps hids => ?_⟩
        · have hc := atomsOf_cells (ρ := ρ) hvs
          rw [← r1 ρ, List.map_cons]
          refine fill_part ?_ ?_ place i hi _
          · rw [← Array.length_toList, ← hc, cellsL_length hva, hsz]
          · rw [← hc]; exact (hp ρ).1
        · exact r3 p (writeSt_ids hps (atomsOf_ids (hids (i, v) (by simp)) hvs) h1) (fun x hx => hids x (by simp [hx]))
      · exact (T.reach_fail h).elim

def placesS (tab : Tab) (fs : Array Field) (i : Nat) : Option (Nat × Nat) :=
  match fs[i]? with
  | some f => match tab f.type with
    | some ti => some (f.offset, ti.sz)
    | none => none
  | none => none

def fieldsKnown (tab : Tab) (fs : Array Field) : Bool := fs.toList.all fun f => (tab f.type).isSome

def buildS (tab : Tab) (t : TypeId) (parts : List (Nat × SV)) : T SV :=
  match tab t with
  | none => .fail "build: type"
  | some ti => (atomsOf ti.z).bind fun z => match ti.d with
    | .struct fs => match fieldsKnown tab fs with
      | true => (fillS (placesS tab fs) z parts).bind fun ps => .ret (mkAgg ps)
      | false => .fail "build: a field's type"
    | .array _ e => match tab e with
      | some te => (fillS (fun i => some (i * te.sz, te.sz)) z parts).bind fun ps => .ret (mkAgg ps)
      | none => .fail "build: element"
    | _ => .fail "build: what"

theorem mapM_places {P : Program} {tab : Tab} (hT : TabOk P tab) (w : World) : ∀ (fs : List Field), (∀ f ∈ fs, (tab f.type).isSome = true) →
    (fs.mapM fun f => (do pure (f.offset, ← sizeOf f.type) : Sem (Nat × Nat))).run P w = .ok (fs.map fun f => (f.offset, ((tab f.type).map (·.sz)).getD 0)) w
  | [], _ => by simp
  | f :: fs, h => by
    obtain ⟨ti, hti⟩ := Option.isSome_iff_exists.1 (h f (by simp))
    have ih := mapM_places hT w fs (fun g hg => h g (by simp [hg]))
    rw [List.mapM_cons]
    simp only [Sem.run_bind, run_size (hT _ _ hti), Result.andThen_ok, Sem.run_pure, ih, List.map_cons, hti, Option.map_some, Option.getD_some]

theorem fill_congr {f g : Nat → Option (Nat × Nat)} (h : ∀ i, f i = g i) (cs : Array Value) (l : List (Nat × Value)) : Instr.fill f cs l = Instr.fill g cs l := by
  have : f = g := funext h
  rw [this]

theorem buildS_spec {P : Program} {tab : Tab} (hT : TabOk P tab) {t : TypeId} {parts : List (Nat × SV)} {v : SV} (hw : ∀ x ∈ parts, wf x.2) (h : T.Reach (buildS tab t parts) v) :
    wf v ∧ (∀ p, (∀ x ∈ parts, x.2.ids p) → v.ids p) ∧ ∀ ρ w, (Instr.build t (parts.map fun x => (x.1, x.2.den ρ)).toArray).run P w = .ok (v.den ρ) w := by
  unfold buildS at h
  split at h
  · exact (T.reach_fail h).elim
  rename_i ti hti
  have ok := hT _ _ hti
  rw [T.reach_bind] at h
  obtain ⟨z, hz, h⟩ := h
  have hza := atomsOf_atoms ok.wf hz
  have hzi : ∀ p, idsL p z := fun p => atomsOf_ids (ok.ids p) hz
  split at h
  · rename_i fs hd
    split at h
    · rename_i hk
      rw [T.reach_bind] at h
      obtain ⟨ps, hps, h⟩ := h
      rw [T.reach_ret] at h; subst h
      obtain ⟨f1, f2, f3⟩ := fillS_spec hza hw hps
      refine ⟨mkAgg_wf f2, fun p hp => mkAgg_ids (f3 p (hzi p) hp), fun ρ w => ?_⟩
      have hu : (underlying t).run P w = .ok (.struct fs) w := by rw [run_und ok, hd]
      have hall : ∀ f ∈ fs.toList, (tab f.type).isSome = true := fun f hf => List.all_eq_true.1 hk f hf
      have hm := mapM_places hT w fs.toList hall
      rw [← Array.toList_mapM] at hm
      have hpl : (fs.mapM fun f => (do pure (f.offset, ← sizeOf f.type) : Sem (Nat × Nat))).run P w = .ok (fs.map fun f => (f.offset, ((tab f.type).map (·.sz)).getD 0)) w := by
        simp only [Sem.run_map] at hm
        generalize (fs.mapM fun f => (do pure (f.offset, ← sizeOf f.type) : Sem (Nat × Nat))).run P w = r at hm ⊢
        cases r with
        | ok a w' =>
          simp only [Result.andThen_ok, Result.ok.injEq] at hm
          obtain ⟨hm, rfl⟩ := hm
          have : a = fs.map fun f => (f.offset, ((tab f.type).map (·.sz)).getD 0) := by apply Array.ext'; simpa using hm
          rw [this]
        | halt x w' => cases hm
      have hc := atomsOf_cells (ρ := ρ) hz
      have hfill := f1 ρ
      simp only [Instr.build, Sem.run_bind, run_zero ok ρ, Result.andThen_ok, hu, hpl]
      have hzc : (ti.z.den ρ).cells = (cellsL ρ z).toArray := by rw [hc]
      rw [hzc, fill_congr (g := placesS tab fs) (fun i => ?_), hfill]
      · simp [mkAgg_den]
      · simp only [placesS, Array.getElem?_map]
        cases hfi : fs[i]? with
        | none => rfl
        | some f =>
          have hmem : f ∈ fs.toList := by simpa using Array.mem_of_getElem? hfi
          obtain ⟨tf, htf⟩ := Option.isSome_iff_exists.1 (hall f hmem)
          simp [htf]
    · exact (T.reach_fail h).elim
  · rename_i n e hd
    split at h
    · rename_i te hte
      rw [T.reach_bind] at h
      obtain ⟨ps, hps, h⟩ := h
      rw [T.reach_ret] at h; subst h
      obtain ⟨f1, f2, f3⟩ := fillS_spec hza hw hps
      refine ⟨mkAgg_wf f2, fun p hp => mkAgg_ids (f3 p (hzi p) hp), fun ρ w => ?_⟩
      have hu : (underlying t).run P w = .ok (.array n e) w := by rw [run_und ok, hd]
      have hc := atomsOf_cells (ρ := ρ) hz
      have hfill := f1 ρ
      simp only [Instr.build, Sem.run_bind, run_zero ok ρ, Result.andThen_ok, hu, run_size (hT _ _ hte)]
      have hzc : (ti.z.den ρ).cells = (cellsL ρ z).toArray := by rw [hc]
      rw [hzc, hfill]
      simp [mkAgg_den]
    · exact (T.reach_fail h).elim
  · exact (T.reach_fail h).elim
end Go.Sx
