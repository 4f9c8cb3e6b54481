import Derived.Test.YtdmphnfpcblfnaaDoorSxC
/- The symbolic layer, part D: stores and loads in the world. -/
namespace Go.Sx
open Go.RowKit (Below)

theorem setCell_heap_ne (w : World) (a : Addr) (u : Value) {k : Nat} (h : k ≠ a.block) : (w.setCell a u).heap[k]? = w.heap[k]? := by
  simp only [World.setCell, Array.getElem?_modify]
  rw [if_neg (Ne.symm h)]

theorem setCell_size (w : World) (a : Addr) (u : Value) : (w.setCell a u).heap.size = w.heap.size := by simp [World.setCell]

theorem setCell_cell (w : World) (b o : Nat) (u v : Value) (h : w.cell? ⟨b, o, none⟩ = some v) (p : Addr) :
    (w.setCell ⟨b, o, none⟩ u).cell? p = if p = ⟨b, o, none⟩ then some u else w.cell? p := by
  simp only [World.cell?] at h
  split at h
  · rename_i c e f hb
    simp at h
    have hlt : o < c.size := by
      rcases Nat.lt_or_ge o c.size with hl | hl
      · exact hl
      · rw [Array.getElem?_eq_none hl] at h; cases h
    by_cases hp : p.block = b
    · obtain ⟨pb, po, ps⟩ := p
      simp only at hp; subst hp
      simp only [World.cell?, World.setCell, Array.getElem?_modify, hb, if_true, Option.map_some]
      cases ps with
      | some s => simp
      | none =>
        simp only [Option.isSome_none, Bool.false_eq_true, if_false, Addr.mk.injEq, true_and, and_true]
        by_cases ho : po = o
        · subst ho; simp [hlt]
        · rw [if_neg ho, Array.getElem?_setIfInBounds_ne (Ne.symm ho)]
    · have hne : p ≠ ⟨b, o, none⟩ := fun e => hp (by rw [e])
      rw [if_neg hne]
      simp only [World.cell?]
      rw [setCell_heap_ne _ _ _ hp]
  · cases h

theorem setCell_frozen (w : World) (b o : Nat) (u : Value) (p : Addr) : (w.setCell ⟨b, o, none⟩ u).frozen? p = w.frozen? p := by
  simp only [World.frozen?, World.setCell, Array.getElem?_modify]
  by_cases hp : b = p.block
  · rw [if_pos hp]
    cases hh : w.heap[p.block]? with
    | none => simp
    | some o' => cases o' <;> simp
  · rw [if_neg hp]

/-- What many stores in a row have done. -/
structure Stored (w : World) (b o : Nat) (vs : List Value) (w' : World) : Prop where
  size : w'.heap.size = w.heap.size
  os : w'.os = w.os
  tape : w'.tape = w.tape
  output : w'.output = w.output
  block : ∀ k, k ≠ b → w'.heap[k]? = w.heap[k]?
  frozen : ∀ p, w'.frozen? p = w.frozen? p
  cell : ∀ p : Addr, w'.cell? p = if p.block = b ∧ p.spot = none ∧ o ≤ p.off ∧ p.off < o + vs.length then vs[p.off - o]? else w.cell? p

theorem run_storeCells (P : Program) : ∀ (vs : List Value) (b o i : Nat) (w : World), (∀ v ∈ vs, one v = true) →
    (∀ j, j < vs.length → ∃ u, w.cell? ⟨b, o + i + j, none⟩ = some u) → (∀ j, j < vs.length → w.frozen? ⟨b, o + i + j, none⟩ = false) →
    ∃ w', (storeCells ⟨b, o, none⟩ vs i).run P w = .ok () w' ∧ Stored w b (o + i) vs w'
  | [], b, o, i, w, _, _, _ => ⟨w, rfl, rfl, rfl, rfl, rfl, fun _ _ => rfl, fun _ => rfl, fun p => by rw [if_neg (by simp only [List.length_nil]; omega)]⟩
  | v :: vs, b, o, i, w, h1, hc, hf => by
    obtain ⟨u, hu⟩ := hc 0 (by simp)
    have hf0 := hf 0 (by simp)
    simp only [Nat.add_zero] at hu hf0
    have hadd : (Addr.add ⟨b, o, none⟩ i) = ⟨b, o + i, none⟩ := by
      unfold Addr.add; split
      · rename_i h; subst h; rfl
      · rfl
    have hcell := setCell_cell w b (o + i) v u hu
    obtain ⟨w', hr, hs⟩ := run_storeCells P vs b o (i + 1) (w.setCell ⟨b, o + i, none⟩ v) (fun x hx => h1 x (by simp [hx]))
      (fun j hj => by
        obtain ⟨u', hu'⟩ := hc (j + 1) (by simp; omega)
        refine ⟨u', ?_⟩
        rw [hcell, if_neg (by simp; omega), show o + (i + 1) + j = o + i + (j + 1) from by omega]; exact hu')
      (fun j hj => by
        rw [setCell_frozen, show o + (i + 1) + j = o + i + (j + 1) from by omega]; exact hf (j + 1) (by simp; omega))
    refine ⟨w', ?_, ?_⟩
    · have h1v := h1 v (by simp)
      have e : (storeCells ⟨b, o, none⟩ (v :: vs) i).run P w = (storeCells ⟨b, o, none⟩ vs (i + 1)).run P (w.setCell ⟨b, o + i, none⟩ v) := by
        show (Sem.bind (store (Addr.add ⟨b, o, none⟩ i) v) fun _ => storeCells ⟨b, o, none⟩ vs (i + 1)).run P w = _
        rw [hadd]
        cases v <;> simp [store, Sem.bind, Sem.run, hu, hf0, one] at h1v ⊢
      rw [e]; exact hr
    · refine ⟨hs.size.trans (setCell_size _ _ _), hs.os, hs.tape, hs.output, fun k hk => (hs.block k hk).trans (setCell_heap_ne _ _ _ hk), fun p => (hs.frozen p).trans (setCell_frozen _ _ _ _ _), fun p => ?_⟩
      rw [hs.cell p, hcell p]
      obtain ⟨pb, po, ps⟩ := p
      simp only [List.length_cons, Addr.mk.injEq]
      by_cases hb : pb = b
      · subst hb
        cases ps with
        | some s => simp
        | none =>
          simp only [true_and, and_true]
          by_cases hlo : o + (i + 1) ≤ po ∧ po < o + (i + 1) + vs.length
          · rw [if_pos hlo, if_pos (by omega)]
            obtain ⟨d, hd⟩ : ∃ d, po = o + (i + 1) + d := ⟨po - (o + (i + 1)), by omega⟩
            subst hd
            rw [show o + (i + 1) + d - (o + (i + 1)) = d from by omega, show o + (i + 1) + d - (o + i) = d + 1 from by omega]
            simp
          · rw [if_neg hlo]
            by_cases he : po = o + i
            · rw [if_pos he, if_pos (by omega)]; subst he; simp
            · rw [if_neg he, if_neg (by omega)]
      · simp [hb]

theorem run_loadCellsFrom (P : Program) (b o : Nat) (w : World) : ∀ (n i : Nat) (cs : List Value) (acc : Array Value), cs.length = n → (∀ j v, cs[j]? = some v → w.cell? ⟨b, o + i + j, none⟩ = some v) →
    (loadCellsFrom ⟨b, o, none⟩ i n acc).run P w = .ok (acc ++ cs.toArray) w
  | 0, i, cs, acc, hl, _ => by
    have : cs = [] := by cases cs <;> simp_all
    subst this
    simp [loadCellsFrom, pure]
  | n + 1, i, cs, acc, hl, hc => by
    match cs, hl with
    | c :: cs', hl =>
      have h0 := hc 0 c (by simp)
      simp only [Nat.add_zero] at h0
      have hadd : (Addr.add ⟨b, o, none⟩ i) = ⟨b, o + i, none⟩ := by
        unfold Addr.add; split
        · rename_i h; subst h; rfl
        · rfl
      have ih := run_loadCellsFrom P b o w n (i + 1) cs' (acc.push c) (by simpa using hl) (fun j v hj => by
        have := hc (j + 1) v (by simpa using hj)
        rw [show o + (i + 1) + j = o + i + (j + 1) from by omega]; exact this)
      have e : (loadCellsFrom ⟨b, o, none⟩ i (n + 1) acc).run P w = (loadCellsFrom ⟨b, o, none⟩ (i + 1) n (acc.push c)).run P w := by
        show (Sem.bind (load (Addr.add ⟨b, o, none⟩ i)) fun v => loadCellsFrom ⟨b, o, none⟩ (i + 1) n (acc.push v)).run P w = _
        rw [hadd]
        simp [load, Sem.bind, Sem.run, h0]
      rw [e, ih]; simp

theorem run_loadCells (P : Program) (b o : Nat) (w : World) {n : Nat} {cs : List Value} (hl : cs.length = n) (hc : ∀ j v, cs[j]? = some v → w.cell? ⟨b, o + j, none⟩ = some v) :
    (loadCells ⟨b, o, none⟩ n).run P w = .ok cs.toArray w := by
  have := run_loadCellsFrom P b o w n 0 cs #[] hl (by simpa using hc)
  simpa [loadCells] using this

/-- Cells written into a block of the call's own. -/
theorem Rel.store {Γ : Gam} {ρ : Env} {S : St} {a : Act} {w w' : World} (h : Rel Γ ρ S a w) {i o : Nat} {b b' : Blk} {vs : List Value} (hl : look S.mem i = some b) (hown : b.own = true)
    (hp : Put (b.cells ρ) o vs (b'.cells ρ)) (hat : b'.atoms) (hown' : b'.own = b.own) (hid : b'.ids S.has) (hs : Stored w (ρ.blk i) (ρ.off i + o) vs w') :
    Rel Γ ρ { S with mem := upd S.mem i b' } a w' := by
  obtain ⟨hput, hle⟩ := hp
  have hhas : ∀ j, ({ S with mem := upd S.mem i b' } : St).has j ↔ S.has j := fun j => by
    simp only [St.has, look_upd]; split
    · rename_i e; subst e; simp [hl]
    · rfl
  have hbase := ((h.mem i b hl).1.mine hown).1
  have hlen : (b'.cells ρ).length = (b.cells ρ).length := by rw [hput]; simp; omega
  refine ⟨h.tm, h.df, ?_, ?_, ?_, h.pin, h.nx, h.wfT, idsL_mono (fun j hj => (hhas j).2 hj) h.idT⟩
  · intro j c hj
    simp only [look_upd] at hj
    split at hj
    · rename_i hij
      subst hij
      simp only [Option.some.injEq] at hj; subst hj
      obtain ⟨hok, _⟩ := h.mem i b hl
      obtain ⟨m1, m2, m3⟩ := hok.mine hown
      refine ⟨⟨hat, fun k v hk => ?_, fun _ => ⟨m1, by rw [hs.size]; exact m2, fun k hk => ?_⟩, fun hf => by rw [hown', hown] at hf; cases hf⟩, Blk.ids_mono (fun j hj => (hhas j).2 hj) hid⟩
      · rw [hs.cell]
        simp only [true_and]
        rw [hput] at hk
        by_cases hr : o ≤ k ∧ k < o + vs.length
        · rw [if_pos (by omega)]
          rw [List.getElem?_append_left (by simp; omega), List.getElem?_append_right (by simp; omega)] at hk
          simp only [List.length_take] at hk
          rw [show k - min o (b.cells ρ).length = k - o from by omega] at hk
          rw [show ρ.off i + k - (ρ.off i + o) = k - o from by omega]; exact hk
        · rw [if_neg (by omega)]
          refine hok.cell k v ?_
          by_cases hlo : k < o
          · rw [List.getElem?_append_left (by simp; omega), List.getElem?_append_left (by simp; omega), List.getElem?_take_of_lt hlo] at hk; exact hk
          · rw [List.getElem?_append_right (by simp; omega)] at hk
            simp only [List.length_append, List.length_take, List.getElem?_drop] at hk
            rw [show o + vs.length + (k - (min o (b.cells ρ).length + vs.length)) = k from by omega] at hk; exact hk
      · rw [hs.frozen]; exact m3 k (by omega)
    · rename_i hij
      obtain ⟨hok, hids⟩ := h.mem j c hj
      refine ⟨⟨hok.atoms, fun k v hk => ?_, fun ho => ?_, hok.theirs⟩, Blk.ids_mono (fun j hj => (hhas j).2 hj) hids⟩
      · rw [hs.cell, if_neg]
        · exact hok.cell k v hk
        · rintro ⟨e, -⟩
          simp only at e
          cases hoc : c.own with
          | true => exact h.dj j i c b hj hl hoc hown (Ne.symm hij) e
          | false => have := hok.theirs hoc; omega
      · obtain ⟨m1, m2, m3⟩ := hok.mine ho
        exact ⟨m1, by rw [hs.size]; exact m2, fun k hk => by rw [hs.frozen]; exact m3 k hk⟩
  · intro j k c d hj hk hoj hok hne
    simp only [look_upd] at hj hk
    have fix : ∀ j c, (if i = j then some b' else look S.mem j) = some c → c.own = true → ∃ c', look S.mem j = some c' ∧ c'.own = true := fun j c hj ho => by
      split at hj
      · rename_i e; subst e; exact ⟨b, hl, hown⟩
      · exact ⟨c, hj, ho⟩
    obtain ⟨c', h1, h2⟩ := fix j c hj hoj
    obtain ⟨d', h3, h4⟩ := fix k d hk hok
    exact h.dj j k c' d' h1 h3 h2 h4 hne
  · refine h.below.trans ⟨hs.os, hs.tape, hs.output, by rw [hs.size]; exact Nat.le_refl _, fun k hk => hs.block k ?_⟩
    omega
end Go.Sx
