import Derived.Test.YtdmphnfpcblfnaaDoorSxB
import Derived.Below
/- The symbolic layer, part C: how a symbolic state stands to a frame and a world. -/
namespace Go.Sx
open Go.RowKit (Below)

structure St where
  tmps : List SV
  mem : Mem
  next : Nat

structure Gam where
  w0 : World
  ρ0 : Env
  n0 : Nat
  G : World → Prop

def SN.ids (p : Nat → Prop) : SN → Prop
  | .var i => p i
  | _ => True

mutual
def SV.ids (p : Nat → Prop) : SV → Prop
  | .ptr b _ x => p b ∧ x.ids p
  | .slice b _ x l c => p b ∧ x.ids p ∧ l.ids p ∧ c.ids p
  | .agg ps => idsL p ps
  | .tup ps => idsL p ps
  | .fn _ cs => idsL p cs
  | .lit _ _ | .int _ _ | .tt | .ff | .bool _ | .raw _ | .ints _ _ _ | .junk _ => True
def idsL (p : Nat → Prop) : List SV → Prop
  | [] => True
  | v :: vs => v.ids p ∧ idsL p vs
end

theorem idsL_iff {p : Nat → Prop} {l : List SV} : idsL p l ↔ ∀ v ∈ l, v.ids p := by
  induction l with
  | nil => simp [idsL]
  | cons a l ih => simp [idsL, ih]

theorem idsL_append {p : Nat → Prop} {a b : List SV} : idsL p (a ++ b) ↔ idsL p a ∧ idsL p b := by
  simp only [idsL_iff, List.mem_append]
  exact ⟨fun h => ⟨fun v hv => h v (.inl hv), fun v hv => h v (.inr hv)⟩, fun h v hv => hv.elim (h.1 v) (h.2 v)⟩

structure Agree (p : Nat → Prop) (ρ ρ' : Env) : Prop where
  blk : ∀ i, p i → ρ'.blk i = ρ.blk i
  off : ∀ i, p i → ρ'.off i = ρ.off i
  cap : ∀ i, p i → ρ'.cap i = ρ.cap i
  junk : ρ'.junk = ρ.junk

theorem SN.den_agree {p : Nat → Prop} {ρ ρ' : Env} (h : Agree p ρ ρ') {x : SN} (hx : x.ids p) : x.den ρ' = x.den ρ := by
  cases x <;> simp [SN.den, SN.ids] at *
  exact h.cap _ hx

mutual
theorem SV.den_agree {p : Nat → Prop} {ρ ρ' : Env} (h : Agree p ρ ρ') : (v : SV) → v.ids p → v.den ρ' = v.den ρ
  | .lit _ _, _ => by simp [SV.den]
  | .int _ _, _ => by simp [SV.den]
  | .tt, _ => by simp [SV.den]
  | .ff, _ => by simp [SV.den]
  | .bool _, _ => by simp [SV.den]
  | .raw _, _ => by simp [SV.den]
  | .junk _, _ => by simp [SV.den, h.junk]
  | .ints _ _ _, _ => by simp [SV.den]
  | .ptr b o x, hi => by
    simp only [SV.ids] at hi
    simp [SV.den, h.blk b hi.1, h.off b hi.1, SN.den_agree h hi.2]
  | .slice b o x l c, hi => by
    simp only [SV.ids] at hi
    simp [SV.den, h.blk b hi.1, h.off b hi.1, SN.den_agree h hi.2.1, SN.den_agree h hi.2.2.1, SN.den_agree h hi.2.2.2]
  | .agg ps, hi => by
    simp only [SV.ids] at hi
    simp [SV.den, cellsL_agree h ps hi]
  | .tup ps, hi => by
    simp only [SV.ids] at hi
    simp [SV.den, denL_agree h ps hi]
  | .fn f cs, hi => by
    simp only [SV.ids] at hi
    simp [SV.den, denL_agree h cs hi]
theorem cellsL_agree {p : Nat → Prop} {ρ ρ' : Env} (h : Agree p ρ ρ') : (l : List SV) → idsL p l → cellsL ρ' l = cellsL ρ l
  | [], _ => by simp [cellsL]
  | v :: vs, hi => by
    simp only [idsL] at hi
    simp [cellsL, SV.den_agree h v hi.1, cellsL_agree h vs hi.2]
theorem denL_agree {p : Nat → Prop} {ρ ρ' : Env} (h : Agree p ρ ρ') : (l : List SV) → idsL p l → denL ρ' l = denL ρ l
  | [], _ => by simp [denL]
  | v :: vs, hi => by
    simp only [idsL] at hi
    simp [denL, SV.den_agree h v hi.1, denL_agree h vs hi.2]
end

def Blk.ids (p : Nat → Prop) : Blk → Prop
  | .st _ ps => idsL p ps
  | .dyn _ _ _ => True

theorem Blk.cells_agree {p : Nat → Prop} {ρ ρ' : Env} (h : Agree p ρ ρ') {b : Blk} (hb : b.ids p) : b.cells ρ' = b.cells ρ := by
  cases b with
  | st o ps => exact cellsL_agree h ps hb
  | dyn o k l => rfl

/-- The numbers that name a block. -/
def St.has (S : St) (i : Nat) : Prop := (look S.mem i).isSome = true

/-- 1000000 and a variable's number name its block. -/
def gid (g : Nat) : Nat := 1000000 + g

/-- What is fixed from the call's beginning on. -/
def Gam.pinned (Γ : Gam) (i : Nat) : Prop := i < Γ.n0 ∨ 1000000 ≤ i

/-- What is pinned. -/
structure Pin (p : Nat → Prop) (ρ ρ' : Env) : Prop where
  blk : ∀ i, p i → ρ'.blk i = ρ.blk i
  off : ∀ i, p i → ρ'.off i = ρ.off i
  cap : ∀ i, p i → ρ'.cap i = ρ.cap i

structure BlkOk (base : Nat) (ρ : Env) (w : World) (i : Nat) (b : Blk) : Prop where
  atoms : b.atoms
  cell : ∀ j v, (b.cells ρ)[j]? = some v → w.cell? ⟨ρ.blk i, ρ.off i + j, none⟩ = some v
  mine : b.own = true → base ≤ ρ.blk i ∧ ρ.blk i < w.heap.size ∧ ∀ j, j < (b.cells ρ).length → w.frozen? ⟨ρ.blk i, ρ.off i + j, none⟩ = false
  theirs : b.own = false → ρ.blk i < base

structure Rel (Γ : Gam) (ρ : Env) (S : St) (a : Act) (w : World) : Prop where
  tm : a.tmps = (denL ρ S.tmps).toArray
  df : a.defers = []
  mem : ∀ i b, look S.mem i = some b → BlkOk Γ.w0.heap.size ρ w i b ∧ b.ids S.has
  dj : ∀ i j b c, look S.mem i = some b → look S.mem j = some c → b.own = true → c.own = true → i ≠ j → ρ.blk i ≠ ρ.blk j
  below : Below Γ.w0.heap.size Γ.w0 w
  pin : Pin Γ.pinned Γ.ρ0 ρ
  nx : Γ.n0 ≤ S.next
  wfT : ∀ v ∈ S.tmps, wf v
  idT : idsL S.has S.tmps

/-- A frame's slot, symbolically. -/
def getS : List SV → Nat → SV
  | [], _ => .raw undef
  | x :: l, i => match i with
    | 0 => x
    | i + 1 => getS l i

theorem getS_eq (l : List SV) (i : Nat) : getS l i = l.getD i (.raw undef) := by
  induction l generalizing i with
  | nil => rfl
  | cons x l ih => cases i with
    | zero => rfl
    | succ i => simp [getS, ih]

def evS (S : St) : Operand → SV
  | .tmp t => getS S.tmps t
  | .const v => match v with
    | .int k n => .lit k n
    | .bool b => match b with
      | true => .tt
      | false => .ff
    | v => .raw v
  | .global g => match look S.mem (gid g) with
    | some _ => .ptr (gid g) 0 (.lit 0)
    | none => .raw (.pointer (some ⟨g, 0, none⟩))
  | .func f => .fn f []

def GlobOk (Γ : Gam) : Prop := ∀ g, Γ.ρ0.blk (gid g) = g ∧ Γ.ρ0.off (gid g) = 0

theorem getD_denL (ρ : Env) (l : List SV) (t : Nat) : (denL ρ l).toArray.getD t undef = (l.getD t (.raw undef)).den ρ := by
  rw [denL_eq]
  simp only [List.getD, Array.getD]
  by_cases h : t < l.length
  · simp [h]
  · simp [h, SV.den]

theorem Rel.ev {Γ : Gam} {ρ : Env} {S : St} {a : Act} {w : World} (h : Rel Γ ρ S a w) (hg : GlobOk Γ) (x : Operand) : a.eval x = (evS S x).den ρ := by
  cases x with
  | tmp t => simp only [Act.eval, evS, h.tm, getS_eq]; exact getD_denL ρ S.tmps t
  | const v =>
    cases v <;> try rfl
    rename_i b
    cases b <;> rfl
  | global g =>
    simp only [Act.eval, evS]
    split
    · have h1 := h.pin.blk (gid g) (.inr (by simp [gid]))
      have h2 := h.pin.off (gid g) (.inr (by simp [gid]))
      obtain ⟨h3, h4⟩ := hg g
      simp [SV.den, SN.den, h1, h2, h3, h4]
    · simp [SV.den]
  | func f => simp [Act.eval, evS, SV.den, denL]

theorem Rel.ev_ids {Γ : Gam} {ρ : Env} {S : St} {a : Act} {w : World} (h : Rel Γ ρ S a w) (x : Operand) : (evS S x).ids S.has := by
  cases x with
  | tmp t =>
    simp only [evS, getS_eq, List.getD]
    by_cases ht : t < S.tmps.length
    · simp only [ht, List.getElem?_eq_getElem, Option.getD_some]
      exact idsL_iff.1 h.idT _ (List.getElem_mem _)
    · simp [ht, SV.ids]
  | const v =>
    cases v <;> simp [evS, SV.ids]
    rename_i b
    cases b <;> simp [SV.ids]
  | global g =>
    simp only [evS]
    split
    · rename_i b hb
      exact ⟨by simp [St.has, hb], trivial⟩
    · simp [SV.ids]
  | func f => simp [evS, SV.ids, idsL]

theorem Rel.ev_wf {Γ : Gam} {ρ : Env} {S : St} {a : Act} {w : World} (h : Rel Γ ρ S a w) (x : Operand) : wf (evS S x) := by
  cases x with
  | tmp t =>
    simp only [evS, getS_eq, List.getD]
    by_cases ht : t < S.tmps.length
    · simp only [ht, List.getElem?_eq_getElem, Option.getD_some]
      exact h.wfT _ (List.getElem_mem _)
    · simp [ht, wf]
  | const v =>
    cases v <;> simp only [evS, wf]
    rename_i b
    cases b <;> simp only [wf]
  | global g => simp only [evS]; split <;> simp only [wf]
  | func f => simp only [evS, wf, wfL]

/-- A slot set. -/
def setS : List SV → Nat → SV → List SV
  | [], _, _ => []
  | x :: l, i, v => match i with
    | 0 => v :: l
    | i + 1 => x :: setS l i v

theorem setS_eq (l : List SV) (i : Nat) (v : SV) : setS l i v = l.set i v := by
  induction l generalizing i with
  | nil => rfl
  | cons x l ih => cases i <;> simp [setS, ih]

def St.put (S : St) (dst : Option Tmp) (v : SV) : St :=
  match dst with
  | some d => { S with tmps := setS S.tmps d v }
  | none => S

theorem St.put_mem (S : St) (dst : Option Tmp) (v : SV) : (S.put dst v).mem = S.mem := by cases dst <;> rfl
theorem St.put_next (S : St) (dst : Option Tmp) (v : SV) : (S.put dst v).next = S.next := by cases dst <;> rfl
theorem St.put_has (S : St) (dst : Option Tmp) (v : SV) : (S.put dst v).has = S.has := by funext i; simp [St.has, St.put_mem]

theorem denL_set (ρ : Env) (l : List SV) (i : Nat) (v : SV) : (denL ρ l).toArray.setIfInBounds i (v.den ρ) = (denL ρ (l.set i v)).toArray := by
  simp [denL_eq, List.map_set]

/-- A value put into its slot, the world as it was. -/
theorem Rel.put {Γ : Gam} {ρ : Env} {S : St} {a : Act} {w : World} (h : Rel Γ ρ S a w) (dst : Option Tmp) {v : SV} (hw : wf v) (hi : v.ids S.has) :
    Rel Γ ρ (S.put dst v) (a.put dst (v.den ρ)) w := by
  cases dst with
  | none => exact h
  | some d =>
    refine ⟨?_, h.df, ?_, h.dj, h.below, h.pin, h.nx, ?_, ?_⟩
    · simp only [Act.put, St.put, setS_eq, h.tm]; exact denL_set ρ S.tmps d v
    · exact h.mem
    · intro u hu
      simp only [St.put, setS_eq] at hu
      rcases List.mem_or_eq_of_mem_set hu with hu | rfl
      · exact h.wfT u hu
      · exact hw
    · simp only [St.put, setS_eq]
      refine idsL_iff.2 fun u hu => ?_
      rcases List.mem_or_eq_of_mem_set hu with hu | rfl
      · exact idsL_iff.1 h.idT u hu
      · exact hi

/-! ### The world: new blocks, stores, draws -/
theorem heap_alloc_lt (w : World) (o : Obj) {k : Nat} (h : k < w.heap.size) : (w.heap.push o)[k]? = w.heap[k]? := by
  rw [Array.getElem?_push, if_neg (by omega)]

theorem cell_push_lt {w : World} {o : Obj} {p : Addr} (h : p.block < w.heap.size) : ({ w with heap := w.heap.push o } : World).cell? p = w.cell? p := by
  simp only [World.cell?]; rw [heap_alloc_lt _ _ h]

theorem frozen_push_lt {w : World} {o : Obj} {p : Addr} (h : p.block < w.heap.size) : ({ w with heap := w.heap.push o } : World).frozen? p = w.frozen? p := by
  simp only [World.frozen?]; rw [heap_alloc_lt _ _ h]

theorem cell_lt {w : World} {p : Addr} {v : Value} (h : w.cell? p = some v) : p.block < w.heap.size := by
  simp only [World.cell?] at h
  rcases Nat.lt_or_ge p.block w.heap.size with hl | hl
  · exact hl
  · rw [Array.getElem?_eq_none hl] at h; cases h

/-- A world that differs from another one in new blocks and draws alone. -/
structure Onto (w w' : World) : Prop where
  below : Below w.heap.size w w'

theorem BlkOk.onto {base : Nat} {ρ : Env} {w w' : World} {i : Nat} {b : Blk} (h : BlkOk base ρ w i b) (hb : Below w.heap.size w w') (_hbase : base ≤ w.heap.size) : BlkOk base ρ w' i b := by
  refine ⟨h.atoms, fun j v hj => ?_, fun ho => ?_, h.theirs⟩
  · have := h.cell j v hj
    rw [hb.cell (p := ⟨ρ.blk i, ρ.off i + j, none⟩) (cell_lt this)]; exact this
  · obtain ⟨h1, h2, h3⟩ := h.mine ho
    refine ⟨h1, Nat.lt_of_lt_of_le h2 hb.size, fun j hj => ?_⟩
    rw [hb.frozen (p := ⟨ρ.blk i, ρ.off i + j, none⟩) h2]; exact h3 j hj

theorem Rel.onto {Γ : Gam} {ρ : Env} {S : St} {a : Act} {w w' : World} (h : Rel Γ ρ S a w) (hb : Below w.heap.size w w') : Rel Γ ρ S a w' :=
  ⟨h.tm, h.df, fun i b hl => ⟨(h.mem i b hl).1.onto hb h.below.size, (h.mem i b hl).2⟩, h.dj, h.below.trans (hb.mono h.below.size), h.pin, h.nx, h.wfT, h.idT⟩

def Env.set (ρ : Env) (i blk off cap : Nat) : Env :=
  ⟨fun j => if j = i then blk else ρ.blk j, fun j => if j = i then off else ρ.off j, fun j => if j = i then cap else ρ.cap j, ρ.junk⟩

theorem agree_set {ρ : Env} {i blk off cap : Nat} {p : Nat → Prop} (h : ¬ p i) : Agree p ρ (ρ.set i blk off cap) :=
  have hne : ∀ j, p j → ¬ j = i := fun j hj e => h (by rw [← e]; exact hj)
  ⟨fun j hj => if_neg (hne j hj), fun j hj => if_neg (hne j hj), fun j hj => if_neg (hne j hj), rfl⟩

theorem SV.ids_mono {p q : Nat → Prop} (h : ∀ i, p i → q i) : (v : SV) → v.ids p → v.ids q := by
  have hn : ∀ x : SN, x.ids p → x.ids q := fun x hx => by cases x <;> simp [SN.ids] at *; exact h _ hx
  intro v
  induction v using SV.rec (motive_2 := fun l => idsL p l → idsL q l) with
  | lit | int | tt | ff | bool | raw | ints | junk => intro _; simp [SV.ids]
  | ptr b o x => intro hi; simp only [SV.ids] at *; exact ⟨h _ hi.1, hn _ hi.2⟩
  | slice b o x l c => intro hi; simp only [SV.ids] at *; exact ⟨h _ hi.1, hn _ hi.2.1, hn _ hi.2.2.1, hn _ hi.2.2.2⟩
  | agg ps ih => intro hi; simp only [SV.ids] at *; exact ih hi
  | tup ps ih => intro hi; simp only [SV.ids] at *; exact ih hi
  | fn f cs ih => intro hi; simp only [SV.ids] at *; exact ih hi
  | nil => simp [idsL]
  | cons v vs ih ihs => rename_i hi; simp only [idsL] at *; exact ⟨ih hi.1, ihs hi.2⟩

theorem idsL_mono {p q : Nat → Prop} (h : ∀ i, p i → q i) {l : List SV} (hl : idsL p l) : idsL q l :=
  idsL_iff.2 fun v hv => SV.ids_mono h v (idsL_iff.1 hl v hv)

theorem Blk.ids_mono {p q : Nat → Prop} (h : ∀ i, p i → q i) {b : Blk} (hb : b.ids p) : b.ids q := by
  cases b with
  | st o ps => exact idsL_mono h hb
  | dyn o k l => trivial

/-- A new block of the call's own. -/
theorem Rel.alloc {Γ : Gam} {ρ : Env} {S : St} {a : Act} {w w' : World} (h : Rel Γ ρ S a w) {i : Nat} {b : Blk} {cap : Nat} (hb : Below w.heap.size w w') (hlk : look S.mem i = none) (hni : ¬ Γ.pinned i)
    (hown : b.own = true) (hat : b.atoms) (hid : b.ids S.has) (hsz : w.heap.size < w'.heap.size)
    (hcell : ∀ j v, (b.cells ρ)[j]? = some v → w'.cell? ⟨w.heap.size, j, none⟩ = some v) (hfr : ∀ j, w'.frozen? ⟨w.heap.size, j, none⟩ = false) (n' : Nat) (hn : Γ.n0 ≤ n') :
    Rel Γ (ρ.set i w.heap.size 0 cap) { S with mem := upd S.mem i b, next := n' } a w' := by
  have hno : ¬ S.has i := by simp [St.has, hlk]
  have ha : Agree S.has ρ (ρ.set i w.heap.size 0 cap) := agree_set hno
  have hmono : ∀ j, S.has j → ({ S with mem := upd S.mem i b, next := n' } : St).has j := fun j hj => by
    simp only [St.has, look_upd]; split
    · rfl
    · exact hj
  have hcells : b.cells (ρ.set i w.heap.size 0 cap) = b.cells ρ := Blk.cells_agree ha hid
  have hsame : ∀ j, j ≠ i → (ρ.set i w.heap.size 0 cap).blk j = ρ.blk j ∧ (ρ.set i w.heap.size 0 cap).off j = ρ.off j := fun j hj => ⟨if_neg hj, if_neg hj⟩
  have hat' : (ρ.set i w.heap.size 0 cap).blk i = w.heap.size ∧ (ρ.set i w.heap.size 0 cap).off i = 0 := ⟨if_pos rfl, if_pos rfl⟩
  refine ⟨?_, h.df, ?_, ?_, h.below.trans (hb.mono h.below.size), ?_, hn, h.wfT, idsL_mono hmono h.idT⟩
  · rw [h.tm, denL_agree ha _ h.idT]
  · intro j c hl
    simp only [look_upd] at hl
    split at hl
    · rename_i hij
      subst hij
      simp only [Option.some.injEq] at hl; subst hl
      refine ⟨⟨hat, fun k v hk => ?_, fun _ => ?_, fun hf => by rw [hown] at hf; cases hf⟩, Blk.ids_mono hmono hid⟩
      · rw [hcells] at hk
        rw [hat'.1, hat'.2, Nat.zero_add]; exact hcell k v hk
      · rw [hat'.1, hat'.2]
        exact ⟨h.below.size, hsz, fun k _ => by rw [Nat.zero_add]; exact hfr k⟩
    · rename_i hij
      obtain ⟨hok, hids⟩ := h.mem j c hl
      have hs := hsame j (Ne.symm hij)
      have hc : c.cells (ρ.set i w.heap.size 0 cap) = c.cells ρ := Blk.cells_agree ha hids
      have hok' := hok.onto hb h.below.size
      refine ⟨⟨hok'.atoms, ?_, ?_, ?_⟩, Blk.ids_mono hmono hids⟩
      · rw [hc, hs.1, hs.2]; exact hok'.cell
      · rw [hc, hs.1, hs.2]; exact hok'.mine
      · rw [hs.1]; exact hok'.theirs
  · intro j k c d hj hk hoj hok hne
    simp only [look_upd] at hj hk
    by_cases h1 : i = j
    · by_cases h2 : i = k
      · exact absurd (h1.symm.trans h2) hne
      · rw [if_neg h2] at hk
        subst h1
        rw [hat'.1, (hsame k (Ne.symm h2)).1]
        obtain ⟨_, hlt, _⟩ := (h.mem k d hk).1.mine hok
        omega
    · rw [if_neg h1] at hj
      by_cases h2 : i = k
      · subst h2
        rw [hat'.1, (hsame j (Ne.symm h1)).1]
        obtain ⟨_, hlt, _⟩ := (h.mem j c hj).1.mine hoj
        omega
      · rw [if_neg h2] at hk
        rw [(hsame j (Ne.symm h1)).1, (hsame k (Ne.symm h2)).1]
        exact h.dj j k c d hj hk hoj hok hne
  · have hne : ∀ j, Γ.pinned j → ¬ j = i := fun j hj e => hni (by rw [← e]; exact hj)
    refine ⟨fun j hj => ?_, fun j hj => ?_, fun j hj => ?_⟩
    · exact (if_neg (hne j hj)).trans (h.pin.blk j hj)
    · exact (if_neg (hne j hj)).trans (h.pin.off j hj)
    · exact (if_neg (hne j hj)).trans (h.pin.cap j hj)
end Go.Sx
