import Derived.Test.YtdmphnfpcblfnaaDoorSxA
/- The symbolic layer, part B: blocks of cells, what is read out of them and written into them. -/
namespace Go.Sx

inductive Blk where
  | st (own : Bool) (ps : List SV)
  | dyn (own : Bool) (k : IntKind) (l : List Int)

def Blk.cells (ρ : Env) : Blk → List Value
  | .st _ ps => cellsL ρ ps
  | .dyn _ k l => l.map (Value.int k)

def Blk.own : Blk → Bool
  | .st o _ => o
  | .dyn o _ _ => o

def Blk.atoms : Blk → Prop
  | .st _ ps => ∀ p ∈ ps, isAtom p
  | .dyn _ _ _ => True

abbrev Mem := List (Nat × Blk)

def look : Mem → Nat → Option Blk
  | [], _ => none
  | (j, b) :: m, i => match Nat.beq j i with
    | true => some b
    | false => look m i

def upd : Mem → Nat → Blk → Mem
  | [], i, b => [(i, b)]
  | (j, c) :: m, i, b => match Nat.beq j i with
    | true => (j, b) :: m
    | false => (j, c) :: upd m i b

theorem beq_no {i j : Nat} (h : ¬ i = j) : Nat.beq i j = false := by
  cases hb : Nat.beq i j with
  | false => rfl
  | true => exact absurd (Nat.eq_of_beq_eq_true hb) h

theorem look_upd (m : Mem) (i j : Nat) (b : Blk) : look (upd m i b) j = if i = j then some b else look m j := by
  induction m with
  | nil =>
    simp only [upd, look]
    by_cases h : i = j
    · subst h; simp
    · have : Nat.beq i j = false := beq_no h
      simp [this, h]
  | cons x m ih =>
    obtain ⟨n, c⟩ := x
    simp only [upd]
    by_cases h : n = i
    · subst h
      simp only [Nat.beq_refl, look]
      by_cases h' : n = j
      · subst h'; simp
      · have : Nat.beq n j = false := beq_no h'
        simp [this, h']
    · have h1 : Nat.beq n i = false := beq_no h
      simp only [h1, look]
      by_cases h' : n = j
      · subst h'; simp [Ne.symm h]
      · have : Nat.beq n j = false := beq_no h'
        simp [this, ih]

/-! ### Reading -/
def addO : Nat → Nat → Nat
  | 0, i => i
  | o + 1, i => (o + 1) + i

theorem addO_eq (o i : Nat) : addO o i = o + i := by cases o <;> simp [addO]

def mkAgg : List SV → SV
  | [.ints k n l] => .ints k n l
  | ps => .agg ps

theorem mkAgg_den (ρ : Env) (ps : List SV) : (mkAgg ps).den ρ = .agg (cellsL ρ ps).toArray := by
  unfold mkAgg
  split
  · simp [SV.den, cellsL, Value.cells]
  · simp [SV.den]

theorem mkAgg_wf {ps : List SV} (h : ∀ p ∈ ps, isAtom p) : wf (mkAgg ps) := by
  unfold mkAgg
  split
  · rename_i k n l
    simpa [wf, isAtom] using h (.ints k n l) (by simp)
  · simpa only [wf] using atomsL_iff.2 h

def readWalk (ps : List SV) (o c : Nat) : T SV :=
  match skipTo ps o with
  | some qs => match gather qs c with
    | some rs => .ret (mkAgg rs)
    | none => .fail "read: gather"
  | none => .fail "read: skip"

def readSt (ps : List SV) (o c : Nat) (sc : Bool) : T SV :=
  match sc with
  | true => match findPart ps o with
    | some (_, p, _, r) => match p with
      | .ints k _ l => .ret (.int k (l.getD r 0))
      | p => .ret p
    | none => .fail "read: no such cell"
  | false => match findPart ps o with
    | some (_, .ints k n l, _, r) => match Nat.ble (r + c) n with
      | true => match Nat.beq c n with
        | true => .ret (.ints k n l)
        | false => .ret (.ints k c (sub l r c))
      | false => readWalk ps o c
    | _ => readWalk ps o c

def readOpn (ps : List SV) (o i c : Nat) (sc : Bool) : T SV :=
  match findPart ps o with
  | some (_, .ints k n l, _, r) => .need (addO r i + c ≤ n) (match sc with
    | true => .ret (.int k (l.getD (addO r i) 0))
    | false => .ret (.ints k c (sub l (addO r i) c)))
  | _ => .fail "read: an open place in no list of numbers"

def readDyn (k : IntKind) (l : List Int) (i c : Nat) (sc : Bool) : T SV :=
  .need (i + c ≤ l.length) (match sc with
    | true => .ret (.int k (l.getD i 0))
    | false => .ret (.ints k c (sub l i c)))

def readBlk (b : Blk) (o : Nat) (x : SN) (c : Nat) (sc : Bool) : T SV :=
  match b with
  | .st _ ps => match x with
    | .lit i => readSt ps (o + i) c sc
    | .opn i => readOpn ps o i c sc
    | .var _ => .fail "read: at a capacity"
  | .dyn _ k l => match x with
    | .lit i => readDyn k l (o + i) c sc
    | .opn i => readDyn k l (addO o i) c sc
    | .var _ => .fail "read: at a capacity"

/-- What has been read: the cell, or the cells. -/
def Got (ρ : Env) (cs : List Value) (o c : Nat) (sc : Bool) (v : SV) : Prop :=
  wf v ∧ match sc with
    | true => cs[o]? = some (v.den ρ) ∧ c = 1
    | false => v.den ρ = .agg ((cs.drop o).take c).toArray ∧ o + c ≤ cs.length

theorem cells_ints_getD {k : IntKind} {l : List Int} {i : Nat} (h : i < l.length) : (l.map (Value.int k))[i]? = some (.int k (l.getD i 0)) := by
  simp [List.getD, h]

theorem got_walk {ρ : Env} {ps : List SV} {o c : Nat} {v : SV} (hs : ∀ p ∈ ps, isAtom p) (h : T.Reach (readWalk ps o c) v) : Got ρ (cellsL ρ ps) o c false v := by
  unfold readWalk at h
  split at h
  · rename_i qs hq
    split at h
    · rename_i rs hg
      rw [T.reach_ret] at h; subst h
      obtain ⟨a1, a2, a3⟩ := skipTo_spec (ρ := ρ) hs hq
      obtain ⟨b1, b2, b3⟩ := gather_spec (ρ := ρ) a2 hg
      refine ⟨mkAgg_wf b2, ?_, ?_⟩
      · rw [mkAgg_den, b1, a1]
      · have h1 := cellsL_length (ρ := ρ) hs
        have h2 := cellsL_length (ρ := ρ) b2
        have h3 := cellsL_length (ρ := ρ) a2
        rw [b1, List.length_take] at h2
        rw [h1]; omega
    · exact (T.reach_fail h).elim
  · exact (T.reach_fail h).elim

theorem part_cell {ρ : Env} {ps bef aft : List SV} {p : SV} {o r : Nat} (hs : ∀ q ∈ ps, isAtom q) (h1 : ps = bef ++ p :: aft) (h2 : o = widthL bef + r) (h3 : r < watom p) :
    (cellsL ρ ps)[o]? = (p.den ρ).cells.toList[r]? := by
  have hb : (cellsL ρ bef).length = widthL bef := cellsL_length fun q hq => hs q (by rw [h1]; simp [hq])
  have hp : (p.den ρ).cells.size = watom p := cells_atom (hs p (by rw [h1]; simp))
  rw [h1, cellsL_append, h2, List.getElem?_append_right (by omega), hb]
  simp only [cellsL, Nat.add_sub_cancel_left]
  rw [List.getElem?_append_left (by simpa [hp] using h3)]

theorem got_st {ρ : Env} {ps : List SV} {o c : Nat} {sc : Bool} {v : SV} (hc : sc = true → c = 1) (hs : ∀ p ∈ ps, isAtom p) (h : T.Reach (readSt ps o c sc) v) : Got ρ (cellsL ρ ps) o c sc v := by
  unfold readSt at h
  split at h
  · -- one cell
    split at h
    · rename_i bef p aft r hf
      obtain ⟨h1, h2, h3⟩ := findPart_spec hf
      have hcell := part_cell (ρ := ρ) hs h1 h2 h3
      have hat := hs p (by rw [h1]; simp)
      split at h
      · rename_i k n l
        rw [T.reach_ret] at h; subst h
        refine ⟨by simp only [wf], ?_, hc rfl⟩
        simp [watom, isAtom] at h3 hat
        rw [hcell]
        simp only [SV.den, Value.cells]
        exact cells_ints_getD (by omega)
      · rename_i hni
        rw [T.reach_ret] at h; subst h
        have hw : watom v = 1 := by cases v <;> simp [watom] at *
        have hr : r = 0 := by omega
        subst hr
        refine ⟨?_, ?_, hc rfl⟩
        · cases v <;> simp [wf, isAtom] at * <;> exact hat
        · rw [hcell]
          cases v <;> simp [SV.den, Value.cells, isAtom] at *
          rename_i u
          cases u <;> simp_all [one]
    · exact (T.reach_fail h).elim
  · split at h
    · rename_i bef k n l aft r hf
      obtain ⟨h1, h2, h3⟩ := findPart_spec hf
      have hat := hs _ (show SV.ints k n l ∈ ps by rw [h1]; simp)
      simp [watom, isAtom] at h3 hat
      have hb : (cellsL ρ bef).length = widthL bef := cellsL_length fun q hq => hs q (by rw [h1]; simp [hq])
      split at h
      · rename_i hle
        have hle := Nat.le_of_ble_eq_true hle
        have key : ((cellsL ρ ps).drop o).take c = (sub l r c).map (Value.int k) ∧ o + c ≤ (cellsL ρ ps).length := by
          rw [h1, cellsL_append, h2]
          simp only [cellsL, SV.den, Value.cells, sub]
          constructor
          · rw [List.drop_append, List.drop_of_length_le (by omega), List.nil_append, hb, Nat.add_sub_cancel_left, List.drop_append_of_le_length (by simp; omega),
              List.take_append_of_le_length (by simp; omega)]
            simp [List.map_take, List.map_drop]
          · simp; omega
        split at h
        · rename_i hcn
          rw [T.reach_ret] at h; subst h
          have hcn : c = n := Nat.eq_of_beq_eq_true hcn
          have hr : r = 0 := by omega
          refine ⟨by simp [wf]; exact hat, ?_, key.2⟩
          rw [key.1, hr]
          simp [SV.den, sub, hcn, ← hat]
        · rw [T.reach_ret] at h; subst h
          refine ⟨by simp [wf, sub]; omega, ?_, key.2⟩
          rw [key.1]; rfl
      · exact got_walk hs h
    · exact got_walk hs h

theorem got_opn {ρ : Env} {ps : List SV} {o i c : Nat} {sc : Bool} {v : SV} (hc : sc = true → c = 1) (hs : ∀ p ∈ ps, isAtom p) (h : T.Reach (readOpn ps o i c sc) v) : Got ρ (cellsL ρ ps) (o + i) c sc v := by
  unfold readOpn at h
  split at h
  · rename_i bef k n l aft r hf
    obtain ⟨h1, h2, h3⟩ := findPart_spec hf
    have hat := hs _ (show SV.ints k n l ∈ ps by rw [h1]; simp)
    simp only [watom] at h3
    simp only [isAtom] at hat
    have hb : (cellsL ρ bef).length = widthL bef := cellsL_length fun q hq => hs q (by rw [h1]; simp [hq])
    rw [T.reach_need, addO_eq] at h
    obtain ⟨hle, h⟩ := h
    split at h
    · rw [T.reach_ret] at h; subst h
      have hc := hc rfl
      refine ⟨by simp only [wf], ?_, hc⟩
      rw [part_cell (ρ := ρ) (r := r + i) hs h1 (by omega) (by simp [watom]; omega)]
      simp only [SV.den, Value.cells]
      exact cells_ints_getD (by omega)
    · rw [T.reach_ret] at h; subst h
      refine ⟨by simp [wf, sub]; omega, ?_, ?_⟩
      · rw [h1, cellsL_append, h2]
        simp only [cellsL, SV.den, Value.cells, sub]
        rw [List.drop_append, List.drop_of_length_le (l := cellsL ρ bef) (by omega), List.nil_append, hb, Nat.add_assoc, Nat.add_sub_cancel_left, List.drop_append_of_le_length (by simp; omega),
          List.take_append_of_le_length (by simp; omega)]
        simp [List.map_take, List.map_drop]
      · rw [h1, cellsL_append]; simp [cellsL, SV.den, Value.cells]; omega
  · exact (T.reach_fail h).elim

theorem got_dyn {ρ : Env} {k : IntKind} {l : List Int} {i c : Nat} {sc : Bool} {v : SV} (hc : sc = true → c = 1) (h : T.Reach (readDyn k l i c sc) v) : Got ρ (l.map (Value.int k)) i c sc v := by
  unfold readDyn at h
  rw [T.reach_need] at h
  obtain ⟨hle, h⟩ := h
  split at h
  · rw [T.reach_ret] at h; subst h
    have hc := hc rfl
    exact ⟨by simp only [wf], cells_ints_getD (by omega), hc⟩
  · rw [T.reach_ret] at h; subst h
    refine ⟨by simp [wf, sub]; omega, ?_, by simpa using hle⟩
    simp [SV.den, sub, List.map_take, List.map_drop]

theorem got_blk {ρ : Env} {b : Blk} {o : Nat} {x : SN} {c : Nat} {sc : Bool} {v : SV} (hc : sc = true → c = 1) (hb : b.atoms) (h : T.Reach (readBlk b o x c sc) v) : Got ρ (b.cells ρ) (o + x.den ρ) c sc v := by
  unfold readBlk at h
  split at h
  · split at h
    · exact got_st hc hb h
    · exact got_opn hc hb h
    · exact (T.reach_fail h).elim
  · split at h
    · exact got_dyn hc h
    · rw [addO_eq] at h; exact got_dyn hc h
    · exact (T.reach_fail h).elim

/-! ### Writing -/
def putL (l : List Int) (r n c : Nat) (lv : List Int) : List Int :=
  match Nat.beq c n with
  | true => lv
  | false => match c with
    | 1 => l.set r (lv.headD 0)
    | _ => splice l r lv

theorem putL_eq {l : List Int} {r n c : Nat} {lv : List Int} (hl : l.length = n) (hv : lv.length = c) (hle : r + c ≤ n) : putL l r n c lv = splice l r lv := by
  unfold putL
  split
  · rename_i h
    have h : c = n := Nat.eq_of_beq_eq_true h
    have hr : r = 0 := by omega
    simp [splice, hr]; omega
  · split
    · obtain ⟨v, rfl⟩ : ∃ v, lv = [v] := by
        match lv, hv with
        | [v], _ => exact ⟨v, rfl⟩
      simp only [splice, List.headD_cons, List.length_singleton]
      rw [List.set_eq_take_append_cons_drop, if_pos (by omega)]
      simp
    · rfl

def writeWalk (ps : List SV) (o c : Nat) (vs : List SV) : T (List SV) :=
  match gather ps o with
  | some a => match skipTo ps (o + c) with
    | some z => .ret (a ++ vs ++ z)
    | none => .fail "write: skip"
  | none => .fail "write: gather"

def writeSt (ps : List SV) (o c : Nat) (vs : List SV) : T (List SV) :=
  match findPart ps o with
  | some (bef, .ints k n l, aft, r) => match vs with
    | [.ints k' _ lv] => match decide (k = k') with
      | true => match Nat.ble (r + c) n with
        | true => .ret (bef ++ .ints k n (putL l r n c lv) :: aft)
        | false => writeWalk ps o c vs
      | false => writeWalk ps o c vs
    | _ => writeWalk ps o c vs
  | _ => writeWalk ps o c vs

def writeOpn (ps : List SV) (o i c : Nat) (vs : List SV) : T (List SV) :=
  match findPart ps o with
  | some (bef, .ints k n l, aft, r) => match vs with
    | [.ints k' _ lv] => match decide (k = k') with
      | true => .need (addO r i + c ≤ n) (.ret (bef ++ .ints k n (putL l (addO r i) n c lv) :: aft))
      | false => .fail "write: kinds"
    | _ => .fail "write: an open place"
  | _ => .fail "write: an open place in no list of numbers"

def writeDyn (k : IntKind) (l : List Int) (i c : Nat) (vs : List SV) : T (List Int) :=
  match vs with
  | [.ints k' _ lv] => match decide (k = k') with
    | true => .need (i + c ≤ l.length) (match c with
      | 1 => .ret (l.set i (lv.headD 0))
      | _ => .ret (splice l i lv))
    | false => .fail "write: kinds"
  | _ => .fail "write: no list of numbers"

def writeBlk (b : Blk) (o : Nat) (x : SN) (c : Nat) (vs : List SV) : T Blk :=
  match b with
  | .st w ps => match x with
    | .lit i => (writeSt ps (o + i) c vs).bind fun ps' => .ret (.st w ps')
    | .opn i => (writeOpn ps o i c vs).bind fun ps' => .ret (.st w ps')
    | .var _ => .fail "write: at a capacity"
  | .dyn w k l => match x with
    | .lit i => (writeDyn k l (o + i) c vs).bind fun l' => .ret (.dyn w k l')
    | .opn i => (writeDyn k l (addO o i) c vs).bind fun l' => .ret (.dyn w k l')
    | .var _ => .fail "write: at a capacity"

/-- What a row is behind a write. -/
def Put (cs : List Value) (o : Nat) (vs cs' : List Value) : Prop := cs' = cs.take o ++ vs ++ cs.drop (o + vs.length) ∧ o + vs.length ≤ cs.length

theorem map_splice (f : Int → Value) (l lv : List Int) (i : Nat) : (splice l i lv).map f = (l.map f).take i ++ lv.map f ++ (l.map f).drop (i + (lv.map f).length) := by
  simp [splice, List.map_take, List.map_drop]

theorem put_walk {ρ : Env} {ps : List SV} {o c : Nat} {vs ps' : List SV} (hs : ∀ p ∈ ps, isAtom p) (hv : ∀ p ∈ vs, isAtom p) (hw : widthL vs = c) (h : T.Reach (writeWalk ps o c vs) ps') :
    Put (cellsL ρ ps) o (cellsL ρ vs) (cellsL ρ ps') ∧ ∀ p ∈ ps', isAtom p := by
  unfold writeWalk at h
  split at h
  · rename_i a ha
    split at h
    · rename_i z hz
      rw [T.reach_ret] at h; subst h
      obtain ⟨a1, a2, a3⟩ := gather_spec (ρ := ρ) hs ha
      obtain ⟨b1, b2, b3⟩ := skipTo_spec (ρ := ρ) hs hz
      have hvl := cellsL_length (ρ := ρ) hv
      have hpl := cellsL_length (ρ := ρ) hs
      refine ⟨⟨?_, by omega⟩, ?_⟩
      · rw [cellsL_append, cellsL_append, a1, b1, hvl, hw]
      · intro p hp
        simp only [List.mem_append] at hp
        rcases hp with (hp | hp) | hp
        · exact a2 p hp
        · exact hv p hp
        · exact b2 p hp
    · exact (T.reach_fail h).elim
  · exact (T.reach_fail h).elim

theorem put_part {ρ : Env} {ps bef aft : List SV} {k : IntKind} {n : Nat} {l : List Int} {o r c m : Nat} {lv : List Int} (hs : ∀ q ∈ ps, isAtom q) (h1 : ps = bef ++ .ints k n l :: aft)
    (h2 : o = widthL bef + r) (hlv : lv.length = m) (hm : m = c) (hle : r + c ≤ n) :
    Put (cellsL ρ ps) o (cellsL ρ [.ints k m lv]) (cellsL ρ (bef ++ .ints k n (putL l r n c lv) :: aft)) ∧ ∀ p ∈ bef ++ .ints k n (putL l r n c lv) :: aft, isAtom p := by
  have hat := hs _ (show SV.ints k n l ∈ ps by rw [h1]; simp)
  simp only [isAtom] at hat
  have hb : (cellsL ρ bef).length = widthL bef := cellsL_length fun q hq => hs q (by rw [h1]; simp [hq])
  rw [putL_eq hat (by omega) hle]
  subst hm
  refine ⟨⟨?_, ?_⟩, ?_⟩
  · rw [h1, cellsL_append, cellsL_append]
    simp only [cellsL, SV.den, Value.cells, List.append_nil, map_splice]
    rw [h2]
    simp only [List.length_map, hlv]
    rw [List.take_append, List.take_of_length_le (l := cellsL ρ bef) (by omega), hb, Nat.add_sub_cancel_left,
      List.take_append_of_le_length (by simp; omega),
      List.drop_append, List.drop_of_length_le (l := cellsL ρ bef) (by omega), hb, List.nil_append,
      show widthL bef + r + m - widthL bef = r + m from by omega, List.drop_append_of_le_length (by simp; omega)]
    simp
  · rw [h1, cellsL_append]; simp [cellsL, SV.den, Value.cells]; omega
  · intro p hp
    rw [List.mem_append] at hp
    rcases hp with hp | hp
    · exact hs p (by rw [h1]; simp [hp])
    · rcases List.mem_cons.1 hp with rfl | hp
      · simp [isAtom, splice]; omega
      · exact hs p (by rw [h1]; simp [hp])

theorem put_st {ρ : Env} {ps : List SV} {o c : Nat} {vs ps' : List SV} (hs : ∀ p ∈ ps, isAtom p) (hv : ∀ p ∈ vs, isAtom p) (hw : widthL vs = c) (h : T.Reach (writeSt ps o c vs) ps') :
    Put (cellsL ρ ps) o (cellsL ρ vs) (cellsL ρ ps') ∧ ∀ p ∈ ps', isAtom p := by
  unfold writeSt at h
  split at h
  · rename_i bef k n l aft r hf
    obtain ⟨h1, h2, h3⟩ := findPart_spec hf
    split at h
    · rename_i k' n' lv
      split at h
      · rename_i hk
        have hk : k = k' := of_decide_eq_true hk
        subst hk
        split at h
        · rename_i hle
          have hle := Nat.le_of_ble_eq_true hle
          rw [T.reach_ret] at h; subst h
          have hlv := hv _ (show SV.ints k n' lv ∈ _ by simp)
          simp only [isAtom] at hlv
          simp [widthL, watom] at hw
          exact put_part hs h1 h2 hlv hw hle
        · exact put_walk hs hv hw h
      · exact put_walk hs hv hw h
    · exact put_walk hs hv hw h
  · exact put_walk hs hv hw h

theorem put_opn {ρ : Env} {ps : List SV} {o i c : Nat} {vs ps' : List SV} (hs : ∀ p ∈ ps, isAtom p) (hv : ∀ p ∈ vs, isAtom p) (hw : widthL vs = c) (h : T.Reach (writeOpn ps o i c vs) ps') :
    Put (cellsL ρ ps) (o + i) (cellsL ρ vs) (cellsL ρ ps') ∧ ∀ p ∈ ps', isAtom p := by
  unfold writeOpn at h
  split at h
  · rename_i bef k n l aft r hf
    obtain ⟨h1, h2, h3⟩ := findPart_spec hf
    split at h
    · rename_i k' n' lv
      split at h
      · rename_i hk
        have hk : k = k' := of_decide_eq_true hk
        subst hk
        rw [T.reach_need, T.reach_ret] at h
        simp only [addO_eq] at h
        obtain ⟨hle, rfl⟩ := h
        have hlv := hv _ (show SV.ints k n' lv ∈ _ by simp)
        simp only [isAtom] at hlv
        simp [widthL, watom] at hw
        exact put_part hs h1 (by omega) hlv hw hle
      · exact (T.reach_fail h).elim
    · exact (T.reach_fail h).elim
  · exact (T.reach_fail h).elim

theorem put_dyn {ρ : Env} {k : IntKind} {l l' : List Int} {i c : Nat} {vs : List SV} (hv : ∀ p ∈ vs, isAtom p) (hw : widthL vs = c) (h : T.Reach (writeDyn k l i c vs) l') :
    Put (l.map (Value.int k)) i (cellsL ρ vs) (l'.map (Value.int k)) ∧ l'.length = l.length := by
  unfold writeDyn at h
  split at h
  · rename_i k' n' lv
    have hlv := hv _ (show SV.ints k' n' lv ∈ _ by simp)
    simp only [isAtom] at hlv
    simp [widthL, watom] at hw
    split at h
    · rename_i hk
      have hk : k = k' := of_decide_eq_true hk
      subst hk
      rw [T.reach_need] at h
      obtain ⟨hle, h⟩ := h
      have key : l' = splice l i lv := by
        split at h
        · rw [T.reach_ret] at h; subst h
          obtain ⟨v, rfl⟩ : ∃ v, lv = [v] := by
            match lv, hlv.trans hw with
            | [v], _ => exact ⟨v, rfl⟩
          simp only [splice, List.headD_cons, List.length_singleton]
          rw [List.set_eq_take_append_cons_drop, if_pos (by omega)]
          simp
        · rw [T.reach_ret] at h; exact h
      subst key
      refine ⟨⟨?_, ?_⟩, ?_⟩
      · simp only [cellsL, SV.den, Value.cells, List.append_nil, map_splice]
      · simp [cellsL, SV.den, Value.cells]; omega
      · simp [splice]; omega
    · exact (T.reach_fail h).elim
  · exact (T.reach_fail h).elim

theorem put_blk {ρ : Env} {b b' : Blk} {o : Nat} {x : SN} {c : Nat} {vs : List SV} (hb : b.atoms) (hv : ∀ p ∈ vs, isAtom p) (hw : widthL vs = c) (h : T.Reach (writeBlk b o x c vs) b') :
    Put (b.cells ρ) (o + x.den ρ) (cellsL ρ vs) (b'.cells ρ) ∧ b'.atoms ∧ b'.own = b.own := by
  unfold writeBlk at h
  split at h
  · split at h
    all_goals (try exact (T.reach_fail h).elim)
    all_goals
      rw [T.reach_bind] at h
      obtain ⟨ps', h1, h2⟩ := h
      rw [T.reach_ret] at h2; subst h2
    · obtain ⟨p1, p2⟩ := put_st (ρ := ρ) hb hv hw h1; exact ⟨p1, p2, rfl⟩
    · obtain ⟨p1, p2⟩ := put_opn (ρ := ρ) hb hv hw h1; exact ⟨p1, p2, rfl⟩
  · split at h
    all_goals (try exact (T.reach_fail h).elim)
    all_goals
      rw [T.reach_bind] at h
      obtain ⟨ps', h1, h2⟩ := h
      rw [T.reach_ret] at h2; subst h2
    · obtain ⟨p1, p2⟩ := put_dyn (ρ := ρ) hv hw h1; exact ⟨p1, trivial, rfl⟩
    · rw [addO_eq] at h1
      obtain ⟨p1, p2⟩ := put_dyn (ρ := ρ) hv hw h1; exact ⟨p1, trivial, rfl⟩
end Go.Sx
