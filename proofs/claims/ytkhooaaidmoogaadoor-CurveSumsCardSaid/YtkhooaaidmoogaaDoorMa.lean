import Derived.Still
import Derived.Laws.Bits
import Derived.Below
import Derived.Laws.Sem
import Derived.Laws.StructEq
/- The symbolic layer, part A: symbolic values, symbolic memory, trees of conditions. Plain definitions and lemmas on them; no program in sight. -/
namespace Go.Sx

/-- A number that is written out, one that is not, or a capacity that a valuation tells. -/
inductive SN where
  | lit (n : Nat)
  | opn (n : Nat)
  | var (i : Nat)

inductive SV where
  | lit (k : IntKind) (n : Int)
  | int (k : IntKind) (n : Int)
  | tt
  | ff
  | bool (b : Bool)
  | ptr (b o : Nat) (x : SN)
  | slice (b o : Nat) (x len cap : SN)
  | raw (v : Value)
  | ints (k : IntKind) (n : Nat) (l : List Int)
  | agg (ps : List SV)
  | tup (ps : List SV)
  | fn (f : FuncId) (caps : List SV)
  | junk (i : Nat)

structure Env where
  blk : Nat → Nat
  off : Nat → Nat
  cap : Nat → Nat
  junk : Nat → Value

def SN.den (ρ : Env) : SN → Nat
  | .lit n => n
  | .opn n => n
  | .var i => ρ.cap i

mutual
def SV.den (ρ : Env) : SV → Value
  | .lit k n => .int k n
  | .int k n => .int k n
  | .tt => .bool true
  | .ff => .bool false
  | .bool b => .bool b
  | .ptr b o x => .pointer (some ⟨ρ.blk b, ρ.off b + (o + x.den ρ), none⟩)
  | .slice b o x len cap => .slice (some ⟨ρ.blk b, ρ.off b + (o + x.den ρ), none⟩) (len.den ρ) (cap.den ρ)
  | .raw v => v
  | .ints k _ l => .agg (l.map (Value.int k)).toArray
  | .agg ps => .agg (cellsL ρ ps).toArray
  | .tup ps => .tuple (denL ρ ps).toArray
  | .fn f caps => .func (.func f) #[] (denL ρ caps).toArray
  | .junk i => ρ.junk i
def cellsL (ρ : Env) : List SV → List Value
  | [] => []
  | p :: ps => (p.den ρ).cells.toList ++ cellsL ρ ps
def denL (ρ : Env) : List SV → List Value
  | [] => []
  | p :: ps => p.den ρ :: denL ρ ps
end

theorem denL_eq (ρ : Env) (l : List SV) : denL ρ l = l.map (SV.den ρ) := by
  induction l with
  | nil => simp [denL]
  | cons a l ih => simp [denL, ih]

theorem cellsL_append (ρ : Env) (a b : List SV) : cellsL ρ (a ++ b) = cellsL ρ a ++ cellsL ρ b := by
  induction a with
  | nil => simp [cellsL]
  | cons p ps ih => simp [cellsL, ih]

/-! ### Trees -/
inductive T (α : Type) : Type where
  | ret (a : α)
  | ite (b : Bool) (t f : T α)
  | need (p : Prop) (t : T α)
  | fail (why : String)

namespace T
variable {α β : Type}
def bind : T α → (α → T β) → T β
  | ret a, f => f a
  | ite b t e, f => ite b (t.bind f) (e.bind f)
  | need p t, f => need p (t.bind f)
  | fail s, _ => fail s

def good : T α → (α → Prop) → Prop
  | ret a, Q => Q a
  | ite b t e, Q => (b = true → t.good Q) ∧ (b = false → e.good Q)
  | need p t, Q => p ∧ t.good Q
  | fail _, _ => False

inductive Reach : T α → α → Prop where
  | ret (a : α) : Reach (.ret a) a
  | yes {b t e a} : b = true → Reach t a → Reach (.ite b t e) a
  | no {b t e a} : b = false → Reach e a → Reach (.ite b t e) a
  | need {p t a} : p → Reach t a → Reach (.need p t) a

theorem reach_of_good {t : T α} {Q : α → Prop} (h : t.good Q) : ∃ a, Reach t a ∧ Q a := by
  induction t with
  | ret a => exact ⟨a, .ret a, h⟩
  | ite b t e iht ihe =>
    cases hb : b with
    | true => obtain ⟨a, r, q⟩ := iht (h.1 hb); exact ⟨a, .yes rfl r, q⟩
    | false => obtain ⟨a, r, q⟩ := ihe (h.2 hb); exact ⟨a, .no rfl r, q⟩
  | need p t ih => obtain ⟨a, r, q⟩ := ih h.2; exact ⟨a, .need h.1 r, q⟩
  | fail s => exact h.elim

theorem good_of_reach {t : T α} {Q : α → Prop} {a : α} (r : Reach t a) (q : Q a) : t.good Q := by
  induction r with
  | ret a => exact q
  | yes hb _ ih => exact ⟨fun _ => ih q, fun h => by rw [hb] at h; cases h⟩
  | no hb _ ih => exact ⟨fun h => by (rw [hb] at h; cases h), fun _ => ih q⟩
  | need hp _ ih => exact ⟨hp, ih q⟩

theorem good_mono {t : T α} {Q Q' : α → Prop} (h : t.good Q) (hq : ∀ a, Q a → Q' a) : t.good Q' := by
  obtain ⟨a, r, q⟩ := reach_of_good h
  exact good_of_reach r (hq a q)

theorem good_bind {t : T α} {f : α → T β} {Q : β → Prop} : (t.bind f).good Q ↔ t.good (fun a => (f a).good Q) := by
  induction t with
  | ret a => simp [bind, good]
  | ite b t e iht ihe => simp [bind, good, iht, ihe]
  | need p t ih => simp [bind, good, ih]
  | fail s => simp [bind, good]

theorem reach_bind {t : T α} {f : α → T β} {b : β} : Reach (t.bind f) b ↔ ∃ a, Reach t a ∧ Reach (f a) b := by
  constructor
  · intro h
    have := good_of_reach (Q := (· = b)) h rfl
    rw [good_bind] at this
    obtain ⟨a, r, q⟩ := reach_of_good this
    obtain ⟨b', r', q'⟩ := reach_of_good q
    subst q'
    exact ⟨a, r, r'⟩
  · rintro ⟨a, r, r'⟩
    have h : (t.bind f).good (· = b) := by rw [good_bind]; exact good_of_reach r (good_of_reach r' rfl)
    obtain ⟨b', r'', q⟩ := reach_of_good h
    subst q
    exact r''

theorem reach_ret {a b : α} : Reach (.ret a) b ↔ b = a := ⟨fun h => by cases h; rfl, fun h => h ▸ .ret _⟩
theorem reach_need {p : Prop} {t : T α} {b : α} : Reach (.need p t) b ↔ p ∧ Reach t b := ⟨fun h => by cases h; exact ⟨‹_›, ‹_›⟩, fun h => .need h.1 h.2⟩
theorem reach_ite {c : Bool} {t e : T α} {b : α} : Reach (.ite c t e) b ↔ (c = true ∧ Reach t b) ∨ (c = false ∧ Reach e b) :=
  ⟨fun h => by
    cases h
    · exact .inl ⟨‹_›, ‹_›⟩
    · exact .inr ⟨‹_›, ‹_›⟩, fun h => by
    rcases h with ⟨h, r⟩ | ⟨h, r⟩
    · exact .yes h r
    · exact .no h r⟩
theorem reach_fail {s : String} {b : α} : ¬ Reach (.fail s) b := fun h => by cases h
end T

/-! ### Atoms, widths -/
def watom : SV → Nat
  | .ints _ n _ => n
  | _ => 1

def one : Value → Bool
  | .agg _ => false
  | .tuple _ => false
  | _ => true

theorem one_cells {v : Value} (h : one v = true) : v.cells = #[v] := by
  cases v <;> simp_all [one, Value.cells]

mutual
/-- What lies in memory: no struct, no tuple; lists as long as they say. -/
def isAtom : SV → Prop
  | .ints _ n l => l.length = n
  | .agg _ => False
  | .tup _ => False
  | .junk _ => False
  | .raw v => one v = true
  | .fn _ cs => wfL cs
  | .lit _ _ | .int _ _ | .tt | .ff | .bool _ | .ptr _ _ _ | .slice _ _ _ _ _ => True
/-- What a value must be like: lists as long as they say. -/
def wf : SV → Prop
  | .ints _ n l => l.length = n
  | .agg ps => atomsL ps
  | .tup ps => wfL ps
  | .fn _ cs => wfL cs
  | .lit _ _ | .int _ _ | .tt | .ff | .bool _ | .ptr _ _ _ | .slice _ _ _ _ _ | .raw _ | .junk _ => True
def atomsL : List SV → Prop
  | [] => True
  | p :: ps => isAtom p ∧ atomsL ps
def wfL : List SV → Prop
  | [] => True
  | p :: ps => wf p ∧ wfL ps
end

theorem atomsL_iff {ps : List SV} : atomsL ps ↔ ∀ p ∈ ps, isAtom p := by
  induction ps with
  | nil => simp [atomsL]
  | cons p ps ih => simp [atomsL, ih]

theorem wfL_iff {ps : List SV} : wfL ps ↔ ∀ p ∈ ps, wf p := by
  induction ps with
  | nil => simp [wfL]
  | cons p ps ih => simp [wfL, ih]

/-- An atom's cells are as many as its width. -/
theorem cells_atom {ρ : Env} {p : SV} (h : isAtom p) : (p.den ρ).cells.size = watom p := by
  cases p <;> simp [SV.den, watom, isAtom, Value.cells] at *
  case ints => exact h
  case raw v => cases v <;> simp_all [one]

def widthL : List SV → Nat
  | [] => 0
  | p :: ps => watom p + widthL ps

theorem widthL_append (a b : List SV) : widthL (a ++ b) = widthL a + widthL b := by
  induction a with
  | nil => simp [widthL]
  | cons p ps ih => simp [widthL, ih]; omega

theorem cellsL_length {ρ : Env} {ps : List SV} (h : ∀ p ∈ ps, isAtom p) : (cellsL ρ ps).length = widthL ps := by
  induction ps with
  | nil => rfl
  | cons p ps ih =>
    simp only [cellsL, widthL, List.length_append, Array.length_toList]
    rw [cells_atom (h p (by simp)), ih (fun q hq => h q (by simp [hq]))]

/-- Neighbours of one kind are one. -/
def consM (p : SV) (ps : List SV) : List SV :=
  match p, ps with
  | .ints k n l, .ints k' n' l' :: r => match decide (k = k') with
    | true => .ints k (n + n') (l ++ l') :: r
    | false => p :: ps
  | _, _ => p :: ps

def merge : List SV → List SV
  | [] => []
  | p :: ps => consM p (merge ps)

theorem cellsL_consM (ρ : Env) (p : SV) (ps : List SV) : cellsL ρ (consM p ps) = (p.den ρ).cells.toList ++ cellsL ρ ps := by
  unfold consM
  split
  · split
    · rename_i hk
      have : _ = _ := of_decide_eq_true hk
      subst this
      simp [cellsL, SV.den, Value.cells]
    · simp [cellsL]
  · simp [cellsL]

theorem cellsL_merge (ρ : Env) (ps : List SV) : cellsL ρ (merge ps) = cellsL ρ ps := by
  induction ps with
  | nil => rfl
  | cons p ps ih => simp [merge, cellsL_consM, ih, cellsL]

theorem atoms_consM {p : SV} {ps : List SV} (h : isAtom p) (hs : ∀ q ∈ ps, isAtom q) : ∀ q ∈ consM p ps, isAtom q := by
  unfold consM
  split
  · split
    · intro q hq
      simp at hq
      rcases hq with rfl | hq
      · have h2 := hs _ (List.mem_cons_self)
        simp [isAtom] at *; omega
      · exact hs _ (List.mem_cons_of_mem _ hq)
    · intro q hq
      rcases List.mem_cons.1 hq with rfl | hq
      · exact h
      · exact hs _ hq
  · intro q hq
    rcases List.mem_cons.1 hq with rfl | hq
    · exact h
    · exact hs _ hq

theorem atoms_merge {ps : List SV} (hs : ∀ q ∈ ps, isAtom q) : ∀ q ∈ merge ps, isAtom q := by
  induction ps with
  | nil => intro q hq; cases hq
  | cons p ps ih => exact atoms_consM (hs p (by simp)) (ih (fun q hq => hs q (by simp [hq])))

/-- A value's atoms; numbers alone become a list of one. -/
def atomsOf : SV → T (List SV)
  | .lit k n => .ret [.ints k 1 [n]]
  | .int k n => .ret [.ints k 1 [n]]
  | .agg ps => .ret ps
  | .tup _ => .fail "atomsOf: a tuple"
  | .junk _ => .fail "atomsOf: junk"
  | .raw v => .need (one v = true) (.ret [.raw v])
  | .ints k n l => .ret [.ints k n l]
  | v => .ret [v]

theorem atomsOf_cells {ρ : Env} {v : SV} {ps : List SV} (h : T.Reach (atomsOf v) ps) : cellsL ρ ps = (v.den ρ).cells.toList := by
  cases v <;> simp only [atomsOf, T.reach_ret, T.reach_need] at h
  case tup => exact (T.reach_fail h).elim
  case junk => exact (T.reach_fail h).elim
  case raw v => obtain ⟨hv, rfl⟩ := h; simp [cellsL, SV.den]
  all_goals (subst h; simp [cellsL, SV.den, Value.cells])

theorem atomsOf_atoms {v : SV} {ps : List SV} (hw : wf v) (h : T.Reach (atomsOf v) ps) : ∀ p ∈ ps, isAtom p := by
  cases v <;> simp only [atomsOf, T.reach_ret, T.reach_need] at h
  case tup => exact (T.reach_fail h).elim
  case junk => exact (T.reach_fail h).elim
  case raw v => obtain ⟨hv, rfl⟩ := h; simp [isAtom, hv]
  case agg => subst h; simp only [wf] at hw; exact atomsL_iff.1 hw
  all_goals (subst h; simp_all [isAtom, wf])

/-! ### Looking into a row of atoms -/
def sub (l : List Int) (i c : Nat) : List Int := (l.drop i).take c
def splice (l : List Int) (i : Nat) (v : List Int) : List Int := l.take i ++ v ++ l.drop (i + v.length)

def findPart : List SV → Nat → Option (List SV × SV × List SV × Nat)
  | [], _ => none
  | p :: ps, o => match Nat.ble (watom p) o with
    | true => match findPart ps (o - watom p) with
      | some (b, q, a, r) => some (p :: b, q, a, r)
      | none => none
    | false => some ([], p, ps, o)

theorem findPart_spec {ps : List SV} {o : Nat} {b : List SV} {q : SV} {a : List SV} {r : Nat} (h : findPart ps o = some (b, q, a, r)) :
    ps = b ++ q :: a ∧ o = widthL b + r ∧ r < watom q := by
  induction ps generalizing o b q a r with
  | nil => simp [findPart] at h
  | cons p ps ih =>
    simp only [findPart] at h
    split at h
    · rename_i hb
      split at h
      · rename_i b' q' a' r' hf
        simp at h
        obtain ⟨rfl, rfl, rfl, rfl⟩ := h
        obtain ⟨h1, h2, h3⟩ := ih hf
        have hb := Nat.le_of_ble_eq_true hb
        exact ⟨by simp [h1], by simp [widthL]; omega, h3⟩
      · cases h
    · rename_i hb
      simp at h
      obtain ⟨rfl, rfl, rfl, rfl⟩ := h
      refine ⟨rfl, by simp [widthL], ?_⟩
      have : ¬ (watom p ≤ o) := fun hh => by rw [Nat.ble_eq_true_of_le hh] at hb; cases hb
      omega

/-- The atoms of c cells from the front on. -/
def gather : List SV → Nat → Option (List SV)
  | [], c => match c with
    | 0 => some []
    | _ + 1 => none
  | p :: ps, c => match c with
    | 0 => some []
    | c' + 1 => match Nat.ble (watom p) (c' + 1) with
      | true => match gather ps (c' + 1 - watom p) with
        | some r => some (p :: r)
        | none => none
      | false => match p with
        | .ints k _ l => some [.ints k (c' + 1) (l.take (c' + 1))]
        | _ => none

theorem gather_spec {ρ : Env} {ps : List SV} {c : Nat} {r : List SV} (hs : ∀ q ∈ ps, isAtom q) (h : gather ps c = some r) :
    cellsL ρ r = (cellsL ρ ps).take c ∧ (∀ q ∈ r, isAtom q) ∧ widthL r = c := by
  induction ps generalizing c r with
  | nil => cases c <;> simp [gather] at h; subst h; simp [cellsL, widthL]
  | cons p ps ih =>
    cases c with
    | zero => simp [gather] at h; subst h; simp [cellsL, widthL]
    | succ c' =>
      simp only [gather] at h
      have hp := hs p (by simp)
      have hc := cells_atom (ρ := ρ) hp
      split at h
      · rename_i hb
        have hb := Nat.le_of_ble_eq_true hb
        split at h
        · rename_i r' hg
          simp at h; subst h
          obtain ⟨h1, h2, h3⟩ := ih (fun q hq => hs q (by simp [hq])) hg
          refine ⟨?_, ?_, ?_⟩
          · simp only [cellsL]
            rw [List.take_append, List.take_of_length_le (l := (SV.den ρ p).cells.toList) (by simp [hc]; omega), h1]
            simp [hc]
          · intro q hq
            rcases List.mem_cons.1 hq with rfl | hq
            · exact hp
            · exact h2 q hq
          · simp [widthL, h3]; omega
        · cases h
      · rename_i hb
        have hb : ¬ (watom p ≤ c' + 1) := fun hh => by rw [Nat.ble_eq_true_of_le hh] at hb; cases hb
        split at h
        · rename_i k n l
          simp at h; subst h
          simp [watom, isAtom] at hb hp
          refine ⟨?_, ?_, ?_⟩
          · simp only [cellsL, SV.den, Value.cells, List.append_nil]
            rw [List.take_append_of_le_length (by simp; omega)]
            simp [List.map_take]
          · intro q hq; simp at hq; subst hq; simp [isAtom]; omega
          · simp [widthL, watom]
        · cases h

/-- What is left behind c cells. -/
def skipTo : List SV → Nat → Option (List SV)
  | [], c => match c with
    | 0 => some []
    | _ + 1 => none
  | p :: ps, c => match Nat.ble (watom p) c with
    | true => skipTo ps (c - watom p)
    | false => match c with
      | 0 => some (p :: ps)
      | c' + 1 => match p with
        | .ints k n l => some (.ints k (n - (c' + 1)) (l.drop (c' + 1)) :: ps)
        | _ => none

theorem skipTo_spec {ρ : Env} {ps : List SV} {c : Nat} {r : List SV} (hs : ∀ q ∈ ps, isAtom q) (h : skipTo ps c = some r) :
    cellsL ρ r = (cellsL ρ ps).drop c ∧ (∀ q ∈ r, isAtom q) ∧ widthL r + c = widthL ps := by
  induction ps generalizing c r with
  | nil => cases c <;> simp [skipTo] at h; subst h; simp [cellsL, widthL]
  | cons p ps ih =>
    simp only [skipTo] at h
    have hp := hs p (by simp)
    have hc := cells_atom (ρ := ρ) hp
    split at h
    · rename_i hb
      have hb := Nat.le_of_ble_eq_true hb
      obtain ⟨h1, h2, h3⟩ := ih (fun q hq => hs q (by simp [hq])) h
      refine ⟨?_, h2, by simp [widthL]; omega⟩
      simp only [cellsL]
      rw [List.drop_append, List.drop_of_length_le (l := (SV.den ρ p).cells.toList) (by simp [hc]; omega), h1]
      simp [hc]
    · rename_i hb
      have hb : ¬ (watom p ≤ c) := fun hh => by rw [Nat.ble_eq_true_of_le hh] at hb; cases hb
      split at h
      · simp at h; subst h; exact ⟨by simp, hs, by simp⟩
      · rename_i c'
        split at h
        · rename_i k n l
          simp at h; subst h
          simp [watom, isAtom] at hb hp
          refine ⟨?_, ?_, ?_⟩
          · simp only [cellsL, SV.den, Value.cells]
            rw [List.drop_append_of_le_length (by simp; omega)]
            simp [List.map_drop]
          · intro q hq
            rcases List.mem_cons.1 hq with rfl | hq
            · simp [isAtom]; omega
            · exact hs q (by simp [hq])
          · simp [widthL, watom]; omega
        · cases h
end Go.Sx

/- The symbolic layer, part B: blocks of cells, what is read out of them and written into them. -/
namespace Go.Sx

inductive Blk where
  | st (own : Bool) (ps : List SV)
  | dyn (own : Bool) (k : IntKind) (l : List Int)

def Blk.cells (ρ : Env) : Blk → List Value
  | .st _ ps => cellsL ρ ps
  | .dyn _ k l => l.map (Value.int k)

def Blk.own : Blk → Bool
  | .st o _ => o
  | .dyn o _ _ => o

def Blk.atoms : Blk → Prop
  | .st _ ps => ∀ p ∈ ps, isAtom p
  | .dyn _ _ _ => True

abbrev Mem := List (Nat × Blk)

def look : Mem → Nat → Option Blk
  | [], _ => none
  | (j, b) :: m, i => match Nat.beq j i with
    | true => some b
    | false => look m i

def upd : Mem → Nat → Blk → Mem
  | [], i, b => [(i, b)]
  | (j, c) :: m, i, b => match Nat.beq j i with
    | true => (j, b) :: m
    | false => (j, c) :: upd m i b

theorem beq_no {i j : Nat} (h : ¬ i = j) : Nat.beq i j = false := by
  cases hb : Nat.beq i j with
  | false => rfl
  | true => exact absurd (Nat.eq_of_beq_eq_true hb) h

theorem look_upd (m : Mem) (i j : Nat) (b : Blk) : look (upd m i b) j = if i = j then some b else look m j := by
  induction m with
  | nil =>
    simp only [upd, look]
    by_cases h : i = j
    · subst h; simp
    · have : Nat.beq i j = false := beq_no h
      simp [this, h]
  | cons x m ih =>
    obtain ⟨n, c⟩ := x
    simp only [upd]
    by_cases h : n = i
    · subst h
      simp only [Nat.beq_refl, look]
      by_cases h' : n = j
      · subst h'; simp
      · have : Nat.beq n j = false := beq_no h'
        simp [this, h']
    · have h1 : Nat.beq n i = false := beq_no h
      simp only [h1, look]
      by_cases h' : n = j
      · subst h'; simp [Ne.symm h]
      · have : Nat.beq n j = false := beq_no h'
        simp [this, ih]

/-! ### Reading -/
def addO : Nat → Nat → Nat
  | 0, i => i
  | o + 1, i => (o + 1) + i

theorem addO_eq (o i : Nat) : addO o i = o + i := by cases o <;> simp [addO]

def mkAgg : List SV → SV
  | [.ints k n l] => .ints k n l
  | ps => .agg ps

theorem mkAgg_den (ρ : Env) (ps : List SV) : (mkAgg ps).den ρ = .agg (cellsL ρ ps).toArray := by
  unfold mkAgg
  split
  · simp [SV.den, cellsL, Value.cells]
  · simp [SV.den]

theorem mkAgg_wf {ps : List SV} (h : ∀ p ∈ ps, isAtom p) : wf (mkAgg ps) := by
  unfold mkAgg
  split
  · rename_i k n l
    simpa [wf, isAtom] using h (.ints k n l) (by simp)
  · simpa only [wf] using atomsL_iff.2 h

def readWalk (ps : List SV) (o c : Nat) : T SV :=
  match skipTo ps o with
  | some qs => match gather qs c with
    | some rs => .ret (mkAgg rs)
    | none => .fail "read: gather"
  | none => .fail "read: skip"

def readSt (ps : List SV) (o c : Nat) (sc : Bool) : T SV :=
  match sc with
  | true => match findPart ps o with
    | some (_, p, _, r) => match p with
      | .ints k _ l => .ret (.int k (l.getD r 0))
      | p => .ret p
    | none => .fail "read: no such cell"
  | false => match findPart ps o with
    | some (_, .ints k n l, _, r) => match Nat.ble (r + c) n with
      | true => match Nat.beq c n with
        | true => .ret (.ints k n l)
        | false => .ret (.ints k c (sub l r c))
      | false => readWalk ps o c
    | _ => readWalk ps o c

def readOpn (ps : List SV) (o i c : Nat) (sc : Bool) : T SV :=
  match findPart ps o with
  | some (_, .ints k n l, _, r) => .need (addO r i + c ≤ n) (match sc with
    | true => .ret (.int k (l.getD (addO r i) 0))
    | false => .ret (.ints k c (sub l (addO r i) c)))
  | _ => .fail "read: an open place in no list of numbers"

def readDyn (k : IntKind) (l : List Int) (i c : Nat) (sc : Bool) : T SV :=
  .need (i + c ≤ l.length) (match sc with
    | true => .ret (.int k (l.getD i 0))
    | false => .ret (.ints k c (sub l i c)))

def readBlk (b : Blk) (o : Nat) (x : SN) (c : Nat) (sc : Bool) : T SV :=
  match b with
  | .st _ ps => match x with
    | .lit i => readSt ps (o + i) c sc
    | .opn i => readOpn ps o i c sc
    | .var _ => .fail "read: at a capacity"
  | .dyn _ k l => match x with
    | .lit i => readDyn k l (o + i) c sc
    | .opn i => readDyn k l (addO o i) c sc
    | .var _ => .fail "read: at a capacity"

/-- What has been read: the cell, or the cells. -/
def Got (ρ : Env) (cs : List Value) (o c : Nat) (sc : Bool) (v : SV) : Prop :=
  wf v ∧ match sc with
    | true => cs[o]? = some (v.den ρ) ∧ c = 1
    | false => v.den ρ = .agg ((cs.drop o).take c).toArray ∧ o + c ≤ cs.length

theorem cells_ints_getD {k : IntKind} {l : List Int} {i : Nat} (h : i < l.length) : (l.map (Value.int k))[i]? = some (.int k (l.getD i 0)) := by
  simp [List.getD, h]

theorem got_walk {ρ : Env} {ps : List SV} {o c : Nat} {v : SV} (hs : ∀ p ∈ ps, isAtom p) (h : T.Reach (readWalk ps o c) v) : Got ρ (cellsL ρ ps) o c false v := by
  unfold readWalk at h
  split at h
  · rename_i qs hq
    split at h
    · rename_i rs hg
      rw [T.reach_ret] at h; subst h
      obtain ⟨a1, a2, a3⟩ := skipTo_spec (ρ := ρ) hs hq
      obtain ⟨b1, b2, b3⟩ := gather_spec (ρ := ρ) a2 hg
      refine ⟨mkAgg_wf b2, ?_, ?_⟩
      · rw [mkAgg_den, b1, a1]
      · have h1 := cellsL_length (ρ := ρ) hs
        have h2 := cellsL_length (ρ := ρ) b2
        have h3 := cellsL_length (ρ := ρ) a2
        rw [b1, List.length_take] at h2
        rw [h1]; omega
    · exact (T.reach_fail h).elim
  · exact (T.reach_fail h).elim

theorem part_cell {ρ : Env} {ps bef aft : List SV} {p : SV} {o r : Nat} (hs : ∀ q ∈ ps, isAtom q) (h1 : ps = bef ++ p :: aft) (h2 : o = widthL bef + r) (h3 : r < watom p) :
    (cellsL ρ ps)[o]? = (p.den ρ).cells.toList[r]? := by
  have hb : (cellsL ρ bef).length = widthL bef := cellsL_length fun q hq => hs q (by rw [h1]; simp [hq])
  have hp : (p.den ρ).cells.size = watom p := cells_atom (hs p (by rw [h1]; simp))
  rw [h1, cellsL_append, h2, List.getElem?_append_right (by omega), hb]
  simp only [cellsL, Nat.add_sub_cancel_left]
  rw [List.getElem?_append_left (by simpa [hp] using h3)]

theorem got_st {ρ : Env} {ps : List SV} {o c : Nat} {sc : Bool} {v : SV} (hc : sc = true → c = 1) (hs : ∀ p ∈ ps, isAtom p) (h : T.Reach (readSt ps o c sc) v) : Got ρ (cellsL ρ ps) o c sc v := by
  unfold readSt at h
  split at h
  · -- one cell
    split at h
    · rename_i bef p aft r hf
      obtain ⟨h1, h2, h3⟩ := findPart_spec hf
      have hcell := part_cell (ρ := ρ) hs h1 h2 h3
      have hat := hs p (by rw [h1]; simp)
      split at h
      · rename_i k n l
        rw [T.reach_ret] at h; subst h
        refine ⟨by simp only [wf], ?_, hc rfl⟩
        simp [watom, isAtom] at h3 hat
        rw [hcell]
        simp only [SV.den, Value.cells]
        exact cells_ints_getD (by omega)
      · rename_i hni
        rw [T.reach_ret] at h; subst h
        have hw : watom v = 1 := by cases v <;> simp [watom] at *
        have hr : r = 0 := by omega
        subst hr
        refine ⟨?_, ?_, hc rfl⟩
        · cases v <;> simp [wf, isAtom] at * <;> exact hat
        · rw [hcell]
          cases v <;> simp [SV.den, Value.cells, isAtom] at *
          rename_i u
          cases u <;> simp_all [one]
    · exact (T.reach_fail h).elim
  · split at h
    · rename_i bef k n l aft r hf
      obtain ⟨h1, h2, h3⟩ := findPart_spec hf
      have hat := hs _ (show SV.ints k n l ∈ ps by rw [h1]; simp)
      simp [watom, isAtom] at h3 hat
      have hb : (cellsL ρ bef).length = widthL bef := cellsL_length fun q hq => hs q (by rw [h1]; simp [hq])
      split at h
      · rename_i hle
        have hle := Nat.le_of_ble_eq_true hle
        have key : ((cellsL ρ ps).drop o).take c = (sub l r c).map (Value.int k) ∧ o + c ≤ (cellsL ρ ps).length := by
          rw [h1, cellsL_append, h2]
          simp only [cellsL, SV.den, Value.cells, sub]
          constructor
          · rw [List.drop_append, List.drop_of_length_le (by omega), List.nil_append, hb, Nat.add_sub_cancel_left, List.drop_append_of_le_length (by simp; omega),
              List.take_append_of_le_length (by simp; omega)]
            simp [List.map_take, List.map_drop]
          · simp; omega
        split at h
        · rename_i hcn
          rw [T.reach_ret] at h; subst h
          have hcn : c = n := Nat.eq_of_beq_eq_true hcn
          have hr : r = 0 := by omega
          refine ⟨by simp [wf]; exact hat, ?_, key.2⟩
          rw [key.1, hr]
          simp [SV.den, sub, hcn, ← hat]
        · rw [T.reach_ret] at h; subst h
          refine ⟨by simp [wf, sub]; omega, ?_, key.2⟩
          rw [key.1]; rfl
      · exact got_walk hs h
    · exact got_walk hs h

theorem got_opn {ρ : Env} {ps : List SV} {o i c : Nat} {sc : Bool} {v : SV} (hc : sc = true → c = 1) (hs : ∀ p ∈ ps, isAtom p) (h : T.Reach (readOpn ps o i c sc) v) : Got ρ (cellsL ρ ps) (o + i) c sc v := by
  unfold readOpn at h
  split at h
  · rename_i bef k n l aft r hf
    obtain ⟨h1, h2, h3⟩ := findPart_spec hf
    have hat := hs _ (show SV.ints k n l ∈ ps by rw [h1]; simp)
    simp only [watom] at h3
    simp only [isAtom] at hat
    have hb : (cellsL ρ bef).length = widthL bef := cellsL_length fun q hq => hs q (by rw [h1]; simp [hq])
    rw [T.reach_need, addO_eq] at h
    obtain ⟨hle, h⟩ := h
    split at h
    · rw [T.reach_ret] at h; subst h
      have hc := hc rfl
      refine ⟨by simp only [wf], ?_, hc⟩
      rw [part_cell (ρ := ρ) (r := r + i) hs h1 (by omega) (by simp [watom]; omega)]
      simp only [SV.den, Value.cells]
      exact cells_ints_getD (by omega)
    · rw [T.reach_ret] at h; subst h
      refine ⟨by simp [wf, sub]; omega, ?_, ?_⟩
      · rw [h1, cellsL_append, h2]
        simp only [cellsL, SV.den, Value.cells, sub]
        rw [List.drop_append, List.drop_of_length_le (l := cellsL ρ bef) (by omega), List.nil_append, hb, Nat.add_assoc, Nat.add_sub_cancel_left, List.drop_append_of_le_length (by simp; omega),
          List.take_append_of_le_length (by simp; omega)]
        simp [List.map_take, List.map_drop]
      · rw [h1, cellsL_append]; simp [cellsL, SV.den, Value.cells]; omega
  · exact (T.reach_fail h).elim

theorem got_dyn {ρ : Env} {k : IntKind} {l : List Int} {i c : Nat} {sc : Bool} {v : SV} (hc : sc = true → c = 1) (h : T.Reach (readDyn k l i c sc) v) : Got ρ (l.map (Value.int k)) i c sc v := by
  unfold readDyn at h
  rw [T.reach_need] at h
  obtain ⟨hle, h⟩ := h
  split at h
  · rw [T.reach_ret] at h; subst h
    have hc := hc rfl
    exact ⟨by simp only [wf], cells_ints_getD (by omega), hc⟩
  · rw [T.reach_ret] at h; subst h
    refine ⟨by simp [wf, sub]; omega, ?_, by simpa using hle⟩
    simp [SV.den, sub, List.map_take, List.map_drop]

theorem got_blk {ρ : Env} {b : Blk} {o : Nat} {x : SN} {c : Nat} {sc : Bool} {v : SV} (hc : sc = true → c = 1) (hb : b.atoms) (h : T.Reach (readBlk b o x c sc) v) : Got ρ (b.cells ρ) (o + x.den ρ) c sc v := by
  unfold readBlk at h
  split at h
  · split at h
    · exact got_st hc hb h
    · exact got_opn hc hb h
    · exact (T.reach_fail h).elim
  · split at h
    · exact got_dyn hc h
    · rw [addO_eq] at h; exact got_dyn hc h
    · exact (T.reach_fail h).elim

/-! ### Writing -/
def putL (l : List Int) (r n c : Nat) (lv : List Int) : List Int :=
  match Nat.beq c n with
  | true => lv
  | false => match c with
    | 1 => l.set r (lv.headD 0)
    | _ => splice l r lv

theorem putL_eq {l : List Int} {r n c : Nat} {lv : List Int} (hl : l.length = n) (hv : lv.length = c) (hle : r + c ≤ n) : putL l r n c lv = splice l r lv := by
  unfold putL
  split
  · rename_i h
    have h : c = n := Nat.eq_of_beq_eq_true h
    have hr : r = 0 := by omega
    simp [splice, hr]; omega
  · split
    · obtain ⟨v, rfl⟩ : ∃ v, lv = [v] := by
        match lv, hv with
        | [v], _ => exact ⟨v, rfl⟩
      simp only [splice, List.headD_cons, List.length_singleton]
      rw [List.set_eq_take_append_cons_drop, if_pos (by omega)]
      simp
    · rfl

def writeWalk (ps : List SV) (o c : Nat) (vs : List SV) : T (List SV) :=
  match gather ps o with
  | some a => match skipTo ps (o + c) with
    | some z => .ret (a ++ vs ++ z)
    | none => .fail "write: skip"
  | none => .fail "write: gather"

def writeSt (ps : List SV) (o c : Nat) (vs : List SV) : T (List SV) :=
  match findPart ps o with
  | some (bef, .ints k n l, aft, r) => match vs with
    | [.ints k' _ lv] => match decide (k = k') with
      | true => match Nat.ble (r + c) n with
        | true => .ret (bef ++ .ints k n (putL l r n c lv) :: aft)
        | false => writeWalk ps o c vs
      | false => writeWalk ps o c vs
    | _ => writeWalk ps o c vs
  | _ => writeWalk ps o c vs

def writeOpn (ps : List SV) (o i c : Nat) (vs : List SV) : T (List SV) :=
  match findPart ps o with
  | some (bef, .ints k n l, aft, r) => match vs with
    | [.ints k' _ lv] => match decide (k = k') with
      | true => .need (addO r i + c ≤ n) (.ret (bef ++ .ints k n (putL l (addO r i) n c lv) :: aft))
      | false => .fail "write: kinds"
    | _ => .fail "write: an open place"
  | _ => .fail "write: an open place in no list of numbers"

def writeDyn (k : IntKind) (l : List Int) (i c : Nat) (vs : List SV) : T (List Int) :=
  match vs with
  | [.ints k' _ lv] => match decide (k = k') with
    | true => .need (i + c ≤ l.length) (match c with
      | 1 => .ret (l.set i (lv.headD 0))
      | _ => .ret (splice l i lv))
    | false => .fail "write: kinds"
  | _ => .fail "write: no list of numbers"

def writeBlk (b : Blk) (o : Nat) (x : SN) (c : Nat) (vs : List SV) : T Blk :=
  match b with
  | .st w ps => match x with
    | .lit i => (writeSt ps (o + i) c vs).bind fun ps' => .ret (.st w ps')
    | .opn i => (writeOpn ps o i c vs).bind fun ps' => .ret (.st w ps')
    | .var _ => .fail "write: at a capacity"
  | .dyn w k l => match x with
    | .lit i => (writeDyn k l (o + i) c vs).bind fun l' => .ret (.dyn w k l')
    | .opn i => (writeDyn k l (addO o i) c vs).bind fun l' => .ret (.dyn w k l')
    | .var _ => .fail "write: at a capacity"

/-- What a row is behind a write. -/
def Put (cs : List Value) (o : Nat) (vs cs' : List Value) : Prop := cs' = cs.take o ++ vs ++ cs.drop (o + vs.length) ∧ o + vs.length ≤ cs.length

theorem map_splice (f : Int → Value) (l lv : List Int) (i : Nat) : (splice l i lv).map f = (l.map f).take i ++ lv.map f ++ (l.map f).drop (i + (lv.map f).length) := by
  simp [splice, List.map_take, List.map_drop]

theorem put_walk {ρ : Env} {ps : List SV} {o c : Nat} {vs ps' : List SV} (hs : ∀ p ∈ ps, isAtom p) (hv : ∀ p ∈ vs, isAtom p) (hw : widthL vs = c) (h : T.Reach (writeWalk ps o c vs) ps') :
    Put (cellsL ρ ps) o (cellsL ρ vs) (cellsL ρ ps') ∧ ∀ p ∈ ps', isAtom p := by
  unfold writeWalk at h
  split at h
  · rename_i a ha
    split at h
    · rename_i z hz
      rw [T.reach_ret] at h; subst h
      obtain ⟨a1, a2, a3⟩ := gather_spec (ρ := ρ) hs ha
      obtain ⟨b1, b2, b3⟩ := skipTo_spec (ρ := ρ) hs hz
      have hvl := cellsL_length (ρ := ρ) hv
      have hpl := cellsL_length (ρ := ρ) hs
      refine ⟨⟨?_, by omega⟩, ?_⟩
      · rw [cellsL_append, cellsL_append, a1, b1, hvl, hw]
      · intro p hp
        simp only [List.mem_append] at hp
        rcases hp with (hp | hp) | hp
        · exact a2 p hp
        · exact hv p hp
        · exact b2 p hp
    · exact (T.reach_fail h).elim
  · exact (T.reach_fail h).elim

theorem put_part {ρ : Env} {ps bef aft : List SV} {k : IntKind} {n : Nat} {l : List Int} {o r c m : Nat} {lv : List Int} (hs : ∀ q ∈ ps, isAtom q) (h1 : ps = bef ++ .ints k n l :: aft)
    (h2 : o = widthL bef + r) (hlv : lv.length = m) (hm : m = c) (hle : r + c ≤ n) :
    Put (cellsL ρ ps) o (cellsL ρ [.ints k m lv]) (cellsL ρ (bef ++ .ints k n (putL l r n c lv) :: aft)) ∧ ∀ p ∈ bef ++ .ints k n (putL l r n c lv) :: aft, isAtom p := by
  have hat := hs _ (show SV.ints k n l ∈ ps by rw [h1]; simp)
  simp only [isAtom] at hat
  have hb : (cellsL ρ bef).length = widthL bef := cellsL_length fun q hq => hs q (by rw [h1]; simp [hq])
  rw [putL_eq hat (by omega) hle]
  subst hm
  refine ⟨⟨?_, ?_⟩, ?_⟩
  · rw [h1, cellsL_append, cellsL_append]
    simp only [cellsL, SV.den, Value.cells, List.append_nil, map_splice]
    rw [h2]
    simp only [List.length_map, hlv]
    rw [List.take_append, List.take_of_length_le (l := cellsL ρ bef) (by omega), hb, Nat.add_sub_cancel_left,
      List.take_append_of_le_length (by simp; omega),
      List.drop_append, List.drop_of_length_le (l := cellsL ρ bef) (by omega), hb, List.nil_append,
      show widthL bef + r + m - widthL bef = r + m from by omega, List.drop_append_of_le_length (by simp; omega)]
    simp
  · rw [h1, cellsL_append]; simp [cellsL, SV.den, Value.cells]; omega
  · intro p hp
    rw [List.mem_append] at hp
    rcases hp with hp | hp
    · exact hs p (by rw [h1]; simp [hp])
    · rcases List.mem_cons.1 hp with rfl | hp
      · simp [isAtom, splice]; omega
      · exact hs p (by rw [h1]; simp [hp])

theorem put_st {ρ : Env} {ps : List SV} {o c : Nat} {vs ps' : List SV} (hs : ∀ p ∈ ps, isAtom p) (hv : ∀ p ∈ vs, isAtom p) (hw : widthL vs = c) (h : T.Reach (writeSt ps o c vs) ps') :
    Put (cellsL ρ ps) o (cellsL ρ vs) (cellsL ρ ps') ∧ ∀ p ∈ ps', isAtom p := by
  unfold writeSt at h
  split at h
  · rename_i bef k n l aft r hf
    obtain ⟨h1, h2, h3⟩ := findPart_spec hf
    split at h
    · rename_i k' n' lv
      split at h
      · rename_i hk
        have hk : k = k' := of_decide_eq_true hk
        subst hk
        split at h
        · rename_i hle
          have hle := Nat.le_of_ble_eq_true hle
          rw [T.reach_ret] at h; subst h
          have hlv := hv _ (show SV.ints k n' lv ∈ _ by simp)
          simp only [isAtom] at hlv
          simp [widthL, watom] at hw
          exact put_part hs h1 h2 hlv hw hle
        · exact put_walk hs hv hw h
      · exact put_walk hs hv hw h
    · exact put_walk hs hv hw h
  · exact put_walk hs hv hw h

theorem put_opn {ρ : Env} {ps : List SV} {o i c : Nat} {vs ps' : List SV} (hs : ∀ p ∈ ps, isAtom p) (hv : ∀ p ∈ vs, isAtom p) (hw : widthL vs = c) (h : T.Reach (writeOpn ps o i c vs) ps') :
    Put (cellsL ρ ps) (o + i) (cellsL ρ vs) (cellsL ρ ps') ∧ ∀ p ∈ ps', isAtom p := by
  unfold writeOpn at h
  split at h
  · rename_i bef k n l aft r hf
    obtain ⟨h1, h2, h3⟩ := findPart_spec hf
    split at h
    · rename_i k' n' lv
      split at h
      · rename_i hk
        have hk : k = k' := of_decide_eq_true hk
        subst hk
        rw [T.reach_need, T.reach_ret] at h
        simp only [addO_eq] at h
        obtain ⟨hle, rfl⟩ := h
        have hlv := hv _ (show SV.ints k n' lv ∈ _ by simp)
        simp only [isAtom] at hlv
        simp [widthL, watom] at hw
        exact put_part hs h1 (by omega) hlv hw hle
      · exact (T.reach_fail h).elim
    · exact (T.reach_fail h).elim
  · exact (T.reach_fail h).elim

theorem put_dyn {ρ : Env} {k : IntKind} {l l' : List Int} {i c : Nat} {vs : List SV} (hv : ∀ p ∈ vs, isAtom p) (hw : widthL vs = c) (h : T.Reach (writeDyn k l i c vs) l') :
    Put (l.map (Value.int k)) i (cellsL ρ vs) (l'.map (Value.int k)) ∧ l'.length = l.length := by
  unfold writeDyn at h
  split at h
  · rename_i k' n' lv
    have hlv := hv _ (show SV.ints k' n' lv ∈ _ by simp)
    simp only [isAtom] at hlv
    simp [widthL, watom] at hw
    split at h
    · rename_i hk
      have hk : k = k' := of_decide_eq_true hk
      subst hk
      rw [T.reach_need] at h
      obtain ⟨hle, h⟩ := h
      have key : l' = splice l i lv := by
        split at h
        · rw [T.reach_ret] at h; subst h
          obtain ⟨v, rfl⟩ : ∃ v, lv = [v] := by
            match lv, hlv.trans hw with
            | [v], _ => exact ⟨v, rfl⟩
          simp only [splice, List.headD_cons, List.length_singleton]
          rw [List.set_eq_take_append_cons_drop, if_pos (by omega)]
          simp
        · rw [T.reach_ret] at h; exact h
      subst key
      refine ⟨⟨?_, ?_⟩, ?_⟩
      · simp only [cellsL, SV.den, Value.cells, List.append_nil, map_splice]
      · simp [cellsL, SV.den, Value.cells]; omega
      · simp [splice]; omega
    · exact (T.reach_fail h).elim
  · exact (T.reach_fail h).elim

theorem put_blk {ρ : Env} {b b' : Blk} {o : Nat} {x : SN} {c : Nat} {vs : List SV} (hb : b.atoms) (hv : ∀ p ∈ vs, isAtom p) (hw : widthL vs = c) (h : T.Reach (writeBlk b o x c vs) b') :
    Put (b.cells ρ) (o + x.den ρ) (cellsL ρ vs) (b'.cells ρ) ∧ b'.atoms ∧ b'.own = b.own := by
  unfold writeBlk at h
  split at h
  · split at h
    all_goals (try exact (T.reach_fail h).elim)
    all_goals
      rw [T.reach_bind] at h
      obtain ⟨ps', h1, h2⟩ := h
      rw [T.reach_ret] at h2; subst h2
    · obtain ⟨p1, p2⟩ := put_st (ρ := ρ) hb hv hw h1; exact ⟨p1, p2, rfl⟩
    · obtain ⟨p1, p2⟩ := put_opn (ρ := ρ) hb hv hw h1; exact ⟨p1, p2, rfl⟩
  · split at h
    all_goals (try exact (T.reach_fail h).elim)
    all_goals
      rw [T.reach_bind] at h
      obtain ⟨ps', h1, h2⟩ := h
      rw [T.reach_ret] at h2; subst h2
    · obtain ⟨p1, p2⟩ := put_dyn (ρ := ρ) hv hw h1; exact ⟨p1, trivial, rfl⟩
    · rw [addO_eq] at h1
      obtain ⟨p1, p2⟩ := put_dyn (ρ := ρ) hv hw h1; exact ⟨p1, trivial, rfl⟩
end Go.Sx

/- The symbolic layer, part C: how a symbolic state stands to a frame and a world. -/
namespace Go.Sx
open Go.RowKit (Below)

structure St where
  tmps : List SV
  mem : Mem
  next : Nat

structure Gam where
  w0 : World
  ρ0 : Env
  n0 : Nat
  G : World → Prop

def SN.ids (p : Nat → Prop) : SN → Prop
  | .var i => p i
  | _ => True

mutual
def SV.ids (p : Nat → Prop) : SV → Prop
  | .ptr b _ x => p b ∧ x.ids p
  | .slice b _ x l c => p b ∧ x.ids p ∧ l.ids p ∧ c.ids p
  | .agg ps => idsL p ps
  | .tup ps => idsL p ps
  | .fn _ cs => idsL p cs
  | .lit _ _ | .int _ _ | .tt | .ff | .bool _ | .raw _ | .ints _ _ _ | .junk _ => True
def idsL (p : Nat → Prop) : List SV → Prop
  | [] => True
  | v :: vs => v.ids p ∧ idsL p vs
end

theorem idsL_iff {p : Nat → Prop} {l : List SV} : idsL p l ↔ ∀ v ∈ l, v.ids p := by
  induction l with
  | nil => simp [idsL]
  | cons a l ih => simp [idsL, ih]

theorem idsL_append {p : Nat → Prop} {a b : List SV} : idsL p (a ++ b) ↔ idsL p a ∧ idsL p b := by
  simp only [idsL_iff, List.mem_append]
  exact ⟨fun h => ⟨fun v hv => h v (.inl hv), fun v hv => h v (.inr hv)⟩, fun h v hv => hv.elim (h.1 v) (h.2 v)⟩

structure Agree (p : Nat → Prop) (ρ ρ' : Env) : Prop where
  blk : ∀ i, p i → ρ'.blk i = ρ.blk i
  off : ∀ i, p i → ρ'.off i = ρ.off i
  cap : ∀ i, p i → ρ'.cap i = ρ.cap i
  junk : ρ'.junk = ρ.junk

theorem SN.den_agree {p : Nat → Prop} {ρ ρ' : Env} (h : Agree p ρ ρ') {x : SN} (hx : x.ids p) : x.den ρ' = x.den ρ := by
  cases x <;> simp [SN.den, SN.ids] at *
  exact h.cap _ hx

mutual
theorem SV.den_agree {p : Nat → Prop} {ρ ρ' : Env} (h : Agree p ρ ρ') : (v : SV) → v.ids p → v.den ρ' = v.den ρ
  | .lit _ _, _ => by simp [SV.den]
  | .int _ _, _ => by simp [SV.den]
  | .tt, _ => by simp [SV.den]
  | .ff, _ => by simp [SV.den]
  | .bool _, _ => by simp [SV.den]
  | .raw _, _ => by simp [SV.den]
  | .junk _, _ => by simp [SV.den, h.junk]
  | .ints _ _ _, _ => by simp [SV.den]
  | .ptr b o x, hi => by
    simp only [SV.ids] at hi
    simp [SV.den, h.blk b hi.1, h.off b hi.1, SN.den_agree h hi.2]
  | .slice b o x l c, hi => by
    simp only [SV.ids] at hi
    simp [SV.den, h.blk b hi.1, h.off b hi.1, SN.den_agree h hi.2.1, SN.den_agree h hi.2.2.1, SN.den_agree h hi.2.2.2]
  | .agg ps, hi => by
    simp only [SV.ids] at hi
    simp [SV.den, cellsL_agree h ps hi]
  | .tup ps, hi => by
    simp only [SV.ids] at hi
    simp [SV.den, denL_agree h ps hi]
  | .fn f cs, hi => by
    simp only [SV.ids] at hi
    simp [SV.den, denL_agree h cs hi]
theorem cellsL_agree {p : Nat → Prop} {ρ ρ' : Env} (h : Agree p ρ ρ') : (l : List SV) → idsL p l → cellsL ρ' l = cellsL ρ l
  | [], _ => by simp [cellsL]
  | v :: vs, hi => by
    simp only [idsL] at hi
    simp [cellsL, SV.den_agree h v hi.1, cellsL_agree h vs hi.2]
theorem denL_agree {p : Nat → Prop} {ρ ρ' : Env} (h : Agree p ρ ρ') : (l : List SV) → idsL p l → denL ρ' l = denL ρ l
  | [], _ => by simp [denL]
  | v :: vs, hi => by
    simp only [idsL] at hi
    simp [denL, SV.den_agree h v hi.1, denL_agree h vs hi.2]
end

def Blk.ids (p : Nat → Prop) : Blk → Prop
  | .st _ ps => idsL p ps
  | .dyn _ _ _ => True

theorem Blk.cells_agree {p : Nat → Prop} {ρ ρ' : Env} (h : Agree p ρ ρ') {b : Blk} (hb : b.ids p) : b.cells ρ' = b.cells ρ := by
  cases b with
  | st o ps => exact cellsL_agree h ps hb
  | dyn o k l => rfl

/-- The numbers that name a block. -/
def St.has (S : St) (i : Nat) : Prop := (look S.mem i).isSome = true

/-- 1000000 and a variable's number name its block. -/
def gid (g : Nat) : Nat := 1000000 + g

/-- What is fixed from the call's beginning on. -/
def Gam.pinned (Γ : Gam) (i : Nat) : Prop := i < Γ.n0 ∨ 1000000 ≤ i

/-- What is pinned. -/
structure Pin (p : Nat → Prop) (ρ ρ' : Env) : Prop where
  blk : ∀ i, p i → ρ'.blk i = ρ.blk i
  off : ∀ i, p i → ρ'.off i = ρ.off i
  cap : ∀ i, p i → ρ'.cap i = ρ.cap i

structure BlkOk (base : Nat) (ρ : Env) (w : World) (i : Nat) (b : Blk) : Prop where
  atoms : b.atoms
  cell : ∀ j v, (b.cells ρ)[j]? = some v → w.cell? ⟨ρ.blk i, ρ.off i + j, none⟩ = some v
  mine : b.own = true → base ≤ ρ.blk i ∧ ρ.blk i < w.heap.size ∧ ∀ j, j < (b.cells ρ).length → w.frozen? ⟨ρ.blk i, ρ.off i + j, none⟩ = false
  theirs : b.own = false → ρ.blk i < base

structure Rel (Γ : Gam) (ρ : Env) (S : St) (a : Act) (w : World) : Prop where
  tm : a.tmps = (denL ρ S.tmps).toArray
  df : a.defers = []
  mem : ∀ i b, look S.mem i = some b → BlkOk Γ.w0.heap.size ρ w i b ∧ b.ids S.has
  dj : ∀ i j b c, look S.mem i = some b → look S.mem j = some c → b.own = true → c.own = true → i ≠ j → ρ.blk i ≠ ρ.blk j
  below : Below Γ.w0.heap.size Γ.w0 w
  pin : Pin Γ.pinned Γ.ρ0 ρ
  nx : Γ.n0 ≤ S.next
  wfT : ∀ v ∈ S.tmps, wf v
  idT : idsL S.has S.tmps

/-- A frame's slot, symbolically. -/
def getS : List SV → Nat → SV
  | [], _ => .raw undef
  | x :: l, i => match i with
    | 0 => x
    | i + 1 => getS l i

theorem getS_eq (l : List SV) (i : Nat) : getS l i = l.getD i (.raw undef) := by
  induction l generalizing i with
  | nil => rfl
  | cons x l ih => cases i with
    | zero => rfl
    | succ i => simp [getS, ih]

def evS (S : St) : Operand → SV
  | .tmp t => getS S.tmps t
  | .const v => match v with
    | .int k n => .lit k n
    | .bool b => match b with
      | true => .tt
      | false => .ff
    | v => .raw v
  | .global g => match look S.mem (gid g) with
    | some _ => .ptr (gid g) 0 (.lit 0)
    | none => .raw (.pointer (some ⟨g, 0, none⟩))
  | .func f => .fn f []

def GlobOk (Γ : Gam) : Prop := ∀ g, Γ.ρ0.blk (gid g) = g ∧ Γ.ρ0.off (gid g) = 0

theorem getD_denL (ρ : Env) (l : List SV) (t : Nat) : (denL ρ l).toArray.getD t undef = (l.getD t (.raw undef)).den ρ := by
  rw [denL_eq]
  simp only [List.getD, Array.getD]
  by_cases h : t < l.length
  · simp [h]
  · simp [h, SV.den]

theorem Rel.ev {Γ : Gam} {ρ : Env} {S : St} {a : Act} {w : World} (h : Rel Γ ρ S a w) (hg : GlobOk Γ) (x : Operand) : a.eval x = (evS S x).den ρ := by
  cases x with
  | tmp t => simp only [Act.eval, evS, h.tm, getS_eq]; exact getD_denL ρ S.tmps t
  | const v =>
    cases v <;> try rfl
    rename_i b
    cases b <;> rfl
  | global g =>
    simp only [Act.eval, evS]
    split
    · have h1 := h.pin.blk (gid g) (.inr (by simp [gid]))
      have h2 := h.pin.off (gid g) (.inr (by simp [gid]))
      obtain ⟨h3, h4⟩ := hg g
      simp [SV.den, SN.den, h1, h2, h3, h4]
    · simp [SV.den]
  | func f => simp [Act.eval, evS, SV.den, denL]

theorem Rel.ev_ids {Γ : Gam} {ρ : Env} {S : St} {a : Act} {w : World} (h : Rel Γ ρ S a w) (x : Operand) : (evS S x).ids S.has := by
  cases x with
  | tmp t =>
    simp only [evS, getS_eq, List.getD]
    by_cases ht : t < S.tmps.length
    · simp only [ht, List.getElem?_eq_getElem, Option.getD_some]
      exact idsL_iff.1 h.idT _ (List.getElem_mem _)
    · simp [ht, SV.ids]
  | const v =>
    cases v <;> simp [evS, SV.ids]
    rename_i b
    cases b <;> simp [SV.ids]
  | global g =>
    simp only [evS]
    split
    · rename_i b hb
      exact ⟨by simp [St.has, hb], trivial⟩
    · simp [SV.ids]
  | func f => simp [evS, SV.ids, idsL]

theorem Rel.ev_wf {Γ : Gam} {ρ : Env} {S : St} {a : Act} {w : World} (h : Rel Γ ρ S a w) (x : Operand) : wf (evS S x) := by
  cases x with
  | tmp t =>
    simp only [evS, getS_eq, List.getD]
    by_cases ht : t < S.tmps.length
    · simp only [ht, List.getElem?_eq_getElem, Option.getD_some]
      exact h.wfT _ (List.getElem_mem _)
    · simp [ht, wf]
  | const v =>
    cases v <;> simp only [evS, wf]
    rename_i b
    cases b <;> simp only [wf]
  | global g => simp only [evS]; split <;> simp only [wf]
  | func f => simp only [evS, wf, wfL]

/-- A slot set. -/
def setS : List SV → Nat → SV → List SV
  | [], _, _ => []
  | x :: l, i, v => match i with
    | 0 => v :: l
    | i + 1 => x :: setS l i v

theorem setS_eq (l : List SV) (i : Nat) (v : SV) : setS l i v = l.set i v := by
  induction l generalizing i with
  | nil => rfl
  | cons x l ih => cases i <;> simp [setS, ih]

def St.put (S : St) (dst : Option Tmp) (v : SV) : St :=
  match dst with
  | some d => { S with tmps := setS S.tmps d v }
  | none => S

theorem St.put_mem (S : St) (dst : Option Tmp) (v : SV) : (S.put dst v).mem = S.mem := by cases dst <;> rfl
theorem St.put_next (S : St) (dst : Option Tmp) (v : SV) : (S.put dst v).next = S.next := by cases dst <;> rfl
theorem St.put_has (S : St) (dst : Option Tmp) (v : SV) : (S.put dst v).has = S.has := by funext i; simp [St.has, St.put_mem]

theorem denL_set (ρ : Env) (l : List SV) (i : Nat) (v : SV) : (denL ρ l).toArray.setIfInBounds i (v.den ρ) = (denL ρ (l.set i v)).toArray := by
  simp [denL_eq, List.map_set]

/-- A value put into its slot, the world as it was. -/
theorem Rel.put {Γ : Gam} {ρ : Env} {S : St} {a : Act} {w : World} (h : Rel Γ ρ S a w) (dst : Option Tmp) {v : SV} (hw : wf v) (hi : v.ids S.has) :
    Rel Γ ρ (S.put dst v) (a.put dst (v.den ρ)) w := by
  cases dst with
  | none => exact h
  | some d =>
    refine ⟨?_, h.df, ?_, h.dj, h.below, h.pin, h.nx, ?_, ?_⟩
    · simp only [Act.put, St.put, setS_eq, h.tm]; exact denL_set ρ S.tmps d v
    · exact h.mem
    · intro u hu
      simp only [St.put, setS_eq] at hu
      rcases List.mem_or_eq_of_mem_set hu with hu | rfl
      · exact h.wfT u hu
      · exact hw
    · simp only [St.put, setS_eq]
      refine idsL_iff.2 fun u hu => ?_
      rcases List.mem_or_eq_of_mem_set hu with hu | rfl
      · exact idsL_iff.1 h.idT u hu
      · exact hi

/-! ### The world: new blocks, stores, draws -/
theorem heap_alloc_lt (w : World) (o : Obj) {k : Nat} (h : k < w.heap.size) : (w.heap.push o)[k]? = w.heap[k]? := by
  rw [Array.getElem?_push, if_neg (by omega)]

theorem cell_push_lt {w : World} {o : Obj} {p : Addr} (h : p.block < w.heap.size) : ({ w with heap := w.heap.push o } : World).cell? p = w.cell? p := by
  simp only [World.cell?]; rw [heap_alloc_lt _ _ h]

theorem frozen_push_lt {w : World} {o : Obj} {p : Addr} (h : p.block < w.heap.size) : ({ w with heap := w.heap.push o } : World).frozen? p = w.frozen? p := by
  simp only [World.frozen?]; rw [heap_alloc_lt _ _ h]

theorem cell_lt {w : World} {p : Addr} {v : Value} (h : w.cell? p = some v) : p.block < w.heap.size := by
  simp only [World.cell?] at h
  rcases Nat.lt_or_ge p.block w.heap.size with hl | hl
  · exact hl
  · rw [Array.getElem?_eq_none hl] at h; cases h

/-- A world that differs from another one in new blocks and draws alone. -/
structure Onto (w w' : World) : Prop where
  below : Below w.heap.size w w'

theorem BlkOk.onto {base : Nat} {ρ : Env} {w w' : World} {i : Nat} {b : Blk} (h : BlkOk base ρ w i b) (hb : Below w.heap.size w w') (_hbase : base ≤ w.heap.size) : BlkOk base ρ w' i b := by
  refine ⟨h.atoms, fun j v hj => ?_, fun ho => ?_, h.theirs⟩
  · have := h.cell j v hj
    rw [hb.cell (p := ⟨ρ.blk i, ρ.off i + j, none⟩) (cell_lt this)]; exact this
  · obtain ⟨h1, h2, h3⟩ := h.mine ho
    refine ⟨h1, Nat.lt_of_lt_of_le h2 hb.size, fun j hj => ?_⟩
    rw [hb.frozen (p := ⟨ρ.blk i, ρ.off i + j, none⟩) h2]; exact h3 j hj

theorem Rel.onto {Γ : Gam} {ρ : Env} {S : St} {a : Act} {w w' : World} (h : Rel Γ ρ S a w) (hb : Below w.heap.size w w') : Rel Γ ρ S a w' :=
  ⟨h.tm, h.df, fun i b hl => ⟨(h.mem i b hl).1.onto hb h.below.size, (h.mem i b hl).2⟩, h.dj, h.below.trans (hb.mono h.below.size), h.pin, h.nx, h.wfT, h.idT⟩

def Env.set (ρ : Env) (i blk off cap : Nat) : Env :=
  ⟨fun j => if j = i then blk else ρ.blk j, fun j => if j = i then off else ρ.off j, fun j => if j = i then cap else ρ.cap j, ρ.junk⟩

theorem agree_set {ρ : Env} {i blk off cap : Nat} {p : Nat → Prop} (h : ¬ p i) : Agree p ρ (ρ.set i blk off cap) :=
  have hne : ∀ j, p j → ¬ j = i := fun j hj e => h (by rw [← e]; exact hj)
  ⟨fun j hj => if_neg (hne j hj), fun j hj => if_neg (hne j hj), fun j hj => if_neg (hne j hj), rfl⟩

theorem SV.ids_mono {p q : Nat → Prop} (h : ∀ i, p i → q i) : (v : SV) → v.ids p → v.ids q := by
  have hn : ∀ x : SN, x.ids p → x.ids q := fun x hx => by cases x <;> simp [SN.ids] at *; exact h _ hx
  intro v
  induction v using SV.rec (motive_2 := fun l => idsL p l → idsL q l) with
  | lit | int | tt | ff | bool | raw | ints | junk => intro _; simp [SV.ids]
  | ptr b o x => intro hi; simp only [SV.ids] at *; exact ⟨h _ hi.1, hn _ hi.2⟩
  | slice b o x l c => intro hi; simp only [SV.ids] at *; exact ⟨h _ hi.1, hn _ hi.2.1, hn _ hi.2.2.1, hn _ hi.2.2.2⟩
  | agg ps ih => intro hi; simp only [SV.ids] at *; exact ih hi
  | tup ps ih => intro hi; simp only [SV.ids] at *; exact ih hi
  | fn f cs ih => intro hi; simp only [SV.ids] at *; exact ih hi
  | nil => simp [idsL]
  | cons v vs ih ihs => rename_i hi; simp only [idsL] at *; exact ⟨ih hi.1, ihs hi.2⟩

theorem idsL_mono {p q : Nat → Prop} (h : ∀ i, p i → q i) {l : List SV} (hl : idsL p l) : idsL q l :=
  idsL_iff.2 fun v hv => SV.ids_mono h v (idsL_iff.1 hl v hv)

theorem Blk.ids_mono {p q : Nat → Prop} (h : ∀ i, p i → q i) {b : Blk} (hb : b.ids p) : b.ids q := by
  cases b with
  | st o ps => exact idsL_mono h hb
  | dyn o k l => trivial

/-- A new block of the call's own. -/
theorem Rel.alloc {Γ : Gam} {ρ : Env} {S : St} {a : Act} {w w' : World} (h : Rel Γ ρ S a w) {i : Nat} {b : Blk} {cap : Nat} (hb : Below w.heap.size w w') (hlk : look S.mem i = none) (hni : ¬ Γ.pinned i)
    (hown : b.own = true) (hat : b.atoms) (hid : b.ids S.has) (hsz : w.heap.size < w'.heap.size)
    (hcell : ∀ j v, (b.cells ρ)[j]? = some v → w'.cell? ⟨w.heap.size, j, none⟩ = some v) (hfr : ∀ j, w'.frozen? ⟨w.heap.size, j, none⟩ = false) (n' : Nat) (hn : Γ.n0 ≤ n') :
    Rel Γ (ρ.set i w.heap.size 0 cap) { S with mem := upd S.mem i b, next := n' } a w' := by
  have hno : ¬ S.has i := by simp [St.has, hlk]
  have ha : Agree S.has ρ (ρ.set i w.heap.size 0 cap) := agree_set hno
  have hmono : ∀ j, S.has j → ({ S with mem := upd S.mem i b, next := n' } : St).has j := fun j hj => by
    simp only [St.has, look_upd]; split
    · rfl
    · exact hj
  have hcells : b.cells (ρ.set i w.heap.size 0 cap) = b.cells ρ := Blk.cells_agree ha hid
  have hsame : ∀ j, j ≠ i → (ρ.set i w.heap.size 0 cap).blk j = ρ.blk j ∧ (ρ.set i w.heap.size 0 cap).off j = ρ.off j := fun j hj => ⟨if_neg hj, if_neg hj⟩
  have hat' : (ρ.set i w.heap.size 0 cap).blk i = w.heap.size ∧ (ρ.set i w.heap.size 0 cap).off i = 0 := ⟨if_pos rfl, if_pos rfl⟩
  refine ⟨?_, h.df, ?_, ?_, h.below.trans (hb.mono h.below.size), ?_, hn, h.wfT, idsL_mono hmono h.idT⟩
  · rw [h.tm, denL_agree ha _ h.idT]
  · intro j c hl
    simp only [look_upd] at hl
    split at hl
    · rename_i hij
      subst hij
      simp only [Option.some.injEq] at hl; subst hl
      refine ⟨⟨hat, fun k v hk => ?_, fun _ => ?_, fun hf => by rw [hown] at hf; cases hf⟩, Blk.ids_mono hmono hid⟩
      · rw [hcells] at hk
        rw [hat'.1, hat'.2, Nat.zero_add]; exact hcell k v hk
      · rw [hat'.1, hat'.2]
        exact ⟨h.below.size, hsz, fun k _ => by rw [Nat.zero_add]; exact hfr k⟩
    · rename_i hij
      obtain ⟨hok, hids⟩ := h.mem j c hl
      have hs := hsame j (Ne.symm hij)
      have hc : c.cells (ρ.set i w.heap.size 0 cap) = c.cells ρ := Blk.cells_agree ha hids
      have hok' := hok.onto hb h.below.size
      refine ⟨⟨hok'.atoms, ?_, ?_, ?_⟩, Blk.ids_mono hmono hids⟩
      · rw [hc, hs.1, hs.2]; exact hok'.cell
      · rw [hc, hs.1, hs.2]; exact hok'.mine
      · rw [hs.1]; exact hok'.theirs
  · intro j k c d hj hk hoj hok hne
    simp only [look_upd] at hj hk
    by_cases h1 : i = j
    · by_cases h2 : i = k
      · exact absurd (h1.symm.trans h2) hne
      · rw [if_neg h2] at hk
        subst h1
        rw [hat'.1, (hsame k (Ne.symm h2)).1]
        obtain ⟨_, hlt, _⟩ := (h.mem k d hk).1.mine hok
        omega
    · rw [if_neg h1] at hj
      by_cases h2 : i = k
      · subst h2
        rw [hat'.1, (hsame j (Ne.symm h1)).1]
        obtain ⟨_, hlt, _⟩ := (h.mem j c hj).1.mine hoj
        omega
      · rw [if_neg h2] at hk
        rw [(hsame j (Ne.symm h1)).1, (hsame k (Ne.symm h2)).1]
        exact h.dj j k c d hj hk hoj hok hne
  · have hne : ∀ j, Γ.pinned j → ¬ j = i := fun j hj e => hni (by rw [← e]; exact hj)
    refine ⟨fun j hj => ?_, fun j hj => ?_, fun j hj => ?_⟩
    · exact (if_neg (hne j hj)).trans (h.pin.blk j hj)
    · exact (if_neg (hne j hj)).trans (h.pin.off j hj)
    · exact (if_neg (hne j hj)).trans (h.pin.cap j hj)
end Go.Sx

/- The symbolic layer, part D: stores and loads in the world. -/
namespace Go.Sx
open Go.RowKit (Below)

theorem setCell_heap_ne (w : World) (a : Addr) (u : Value) {k : Nat} (h : k ≠ a.block) : (w.setCell a u).heap[k]? = w.heap[k]? := by
  simp only [World.setCell, Array.getElem?_modify]
  rw [if_neg (Ne.symm h)]

theorem setCell_size (w : World) (a : Addr) (u : Value) : (w.setCell a u).heap.size = w.heap.size := by simp [World.setCell]

theorem setCell_cell (w : World) (b o : Nat) (u v : Value) (h : w.cell? ⟨b, o, none⟩ = some v) (p : Addr) :
    (w.setCell ⟨b, o, none⟩ u).cell? p = if p = ⟨b, o, none⟩ then some u else w.cell? p := by
  simp only [World.cell?] at h
  split at h
  · rename_i c e f hb
    simp at h
    have hlt : o < c.size := by
      rcases Nat.lt_or_ge o c.size with hl | hl
      · exact hl
      · rw [Array.getElem?_eq_none hl] at h; cases h
    by_cases hp : p.block = b
    · obtain ⟨pb, po, ps⟩ := p
      simp only at hp; subst hp
      simp only [World.cell?, World.setCell, Array.getElem?_modify, hb, if_true, Option.map_some]
      cases ps with
      | some s => simp
      | none =>
        simp only [Option.isSome_none, Bool.false_eq_true, if_false, Addr.mk.injEq, true_and, and_true]
        by_cases ho : po = o
        · subst ho; simp [hlt]
        · rw [if_neg ho, Array.getElem?_setIfInBounds_ne (Ne.symm ho)]
    · have hne : p ≠ ⟨b, o, none⟩ := fun e => hp (by rw [e])
      rw [if_neg hne]
      simp only [World.cell?]
      rw [setCell_heap_ne _ _ _ hp]
  · cases h

theorem setCell_frozen (w : World) (b o : Nat) (u : Value) (p : Addr) : (w.setCell ⟨b, o, none⟩ u).frozen? p = w.frozen? p := by
  simp only [World.frozen?, World.setCell, Array.getElem?_modify]
  by_cases hp : b = p.block
  · rw [if_pos hp]
    cases hh : w.heap[p.block]? with
    | none => simp
    | some o' => cases o' <;> simp
  · rw [if_neg hp]

/-- What many stores in a row have done. -/
structure Stored (w : World) (b o : Nat) (vs : List Value) (w' : World) : Prop where
  size : w'.heap.size = w.heap.size
  os : w'.os = w.os
  tape : w'.tape = w.tape
  output : w'.output = w.output
  block : ∀ k, k ≠ b → w'.heap[k]? = w.heap[k]?
  frozen : ∀ p, w'.frozen? p = w.frozen? p
  cell : ∀ p : Addr, w'.cell? p = if p.block = b ∧ p.spot = none ∧ o ≤ p.off ∧ p.off < o + vs.length then vs[p.off - o]? else w.cell? p

theorem run_storeCells (P : Program) : ∀ (vs : List Value) (b o i : Nat) (w : World), (∀ v ∈ vs, one v = true) →
    (∀ j, j < vs.length → ∃ u, w.cell? ⟨b, o + i + j, none⟩ = some u) → (∀ j, j < vs.length → w.frozen? ⟨b, o + i + j, none⟩ = false) →
    ∃ w', (storeCells ⟨b, o, none⟩ vs i).run P w = .ok () w' ∧ Stored w b (o + i) vs w'
  | [], b, o, i, w, _, _, _ => ⟨w, rfl, rfl, rfl, rfl, rfl, fun _ _ => rfl, fun _ => rfl, fun p => by rw [if_neg (by simp only [List.length_nil]; omega)]⟩
  | v :: vs, b, o, i, w, h1, hc, hf => by
    obtain ⟨u, hu⟩ := hc 0 (by simp)
    have hf0 := hf 0 (by simp)
    simp only [Nat.add_zero] at hu hf0
    have hadd : (Addr.add ⟨b, o, none⟩ i) = ⟨b, o + i, none⟩ := by
      unfold Addr.add; split
      · rename_i h; subst h; rfl
      · rfl
    have hcell := setCell_cell w b (o + i) v u hu
    obtain ⟨w', hr, hs⟩ := run_storeCells P vs b o (i + 1) (w.setCell ⟨b, o + i, none⟩ v) (fun x hx => h1 x (by simp [hx]))
      (fun j hj => by
        obtain ⟨u', hu'⟩ := hc (j + 1) (by simp; omega)
        refine ⟨u', ?_⟩
        rw [hcell, if_neg (by simp; omega), show o + (i + 1) + j = o + i + (j + 1) from by omega]; exact hu')
      (fun j hj => by
        rw [setCell_frozen, show o + (i + 1) + j = o + i + (j + 1) from by omega]; exact hf (j + 1) (by simp; omega))
    refine ⟨w', ?_, ?_⟩
    · have h1v := h1 v (by simp)
      have e : (storeCells ⟨b, o, none⟩ (v :: vs) i).run P w = (storeCells ⟨b, o, none⟩ vs (i + 1)).run P (w.setCell ⟨b, o + i, none⟩ v) := by
        show (Sem.bind (store (Addr.add ⟨b, o, none⟩ i) v) fun _ => storeCells ⟨b, o, none⟩ vs (i + 1)).run P w = _
        rw [hadd]
        cases v <;> simp [store, Sem.bind, Sem.run, hu, hf0, one] at h1v ⊢
      rw [e]; exact hr
    · refine ⟨hs.size.trans (setCell_size _ _ _), hs.os, hs.tape, hs.output, fun k hk => (hs.block k hk).trans (setCell_heap_ne _ _ _ hk), fun p => (hs.frozen p).trans (setCell_frozen _ _ _ _ _), fun p => ?_⟩
      rw [hs.cell p, hcell p]
      obtain ⟨pb, po, ps⟩ := p
      simp only [List.length_cons, Addr.mk.injEq]
      by_cases hb : pb = b
      · subst hb
        cases ps with
        | some s => simp
        | none =>
          simp only [true_and, and_true]
          by_cases hlo : o + (i + 1) ≤ po ∧ po < o + (i + 1) + vs.length
          · rw [if_pos hlo, if_pos (by omega)]
            obtain ⟨d, hd⟩ : ∃ d, po = o + (i + 1) + d := ⟨po - (o + (i + 1)), by omega⟩
            subst hd
            rw [show o + (i + 1) + d - (o + (i + 1)) = d from by omega, show o + (i + 1) + d - (o + i) = d + 1 from by omega]
            simp
          · rw [if_neg hlo]
            by_cases he : po = o + i
            · rw [if_pos he, if_pos (by omega)]; subst he; simp
            · rw [if_neg he, if_neg (by omega)]
      · simp [hb]

theorem run_loadCellsFrom (P : Program) (b o : Nat) (w : World) : ∀ (n i : Nat) (cs : List Value) (acc : Array Value), cs.length = n → (∀ j v, cs[j]? = some v → w.cell? ⟨b, o + i + j, none⟩ = some v) →
    (loadCellsFrom ⟨b, o, none⟩ i n acc).run P w = .ok (acc ++ cs.toArray) w
  | 0, i, cs, acc, hl, _ => by
    have : cs = [] := by cases cs <;> simp_all
    subst this
    simp [loadCellsFrom, pure]
  | n + 1, i, cs, acc, hl, hc => by
    match cs, hl with
    | c :: cs', hl =>
      have h0 := hc 0 c (by simp)
      simp only [Nat.add_zero] at h0
      have hadd : (Addr.add ⟨b, o, none⟩ i) = ⟨b, o + i, none⟩ := by
        unfold Addr.add; split
        · rename_i h; subst h; rfl
        · rfl
      have ih := run_loadCellsFrom P b o w n (i + 1) cs' (acc.push c) (by simpa using hl) (fun j v hj => by
        have := hc (j + 1) v (by simpa using hj)
        rw [show o + (i + 1) + j = o + i + (j + 1) from by omega]; exact this)
      have e : (loadCellsFrom ⟨b, o, none⟩ i (n + 1) acc).run P w = (loadCellsFrom ⟨b, o, none⟩ (i + 1) n (acc.push c)).run P w := by
        show (Sem.bind (load (Addr.add ⟨b, o, none⟩ i)) fun v => loadCellsFrom ⟨b, o, none⟩ (i + 1) n (acc.push v)).run P w = _
        rw [hadd]
        simp [load, Sem.bind, Sem.run, h0]
      rw [e, ih]; simp

theorem run_loadCells (P : Program) (b o : Nat) (w : World) {n : Nat} {cs : List Value} (hl : cs.length = n) (hc : ∀ j v, cs[j]? = some v → w.cell? ⟨b, o + j, none⟩ = some v) :
    (loadCells ⟨b, o, none⟩ n).run P w = .ok cs.toArray w := by
  have := run_loadCellsFrom P b o w n 0 cs #[] hl (by simpa using hc)
  simpa [loadCells] using this

/-- Cells written into a block of the call's own. -/
theorem Rel.store {Γ : Gam} {ρ : Env} {S : St} {a : Act} {w w' : World} (h : Rel Γ ρ S a w) {i o : Nat} {b b' : Blk} {vs : List Value} (hl : look S.mem i = some b) (hown : b.own = true)
    (hp : Put (b.cells ρ) o vs (b'.cells ρ)) (hat : b'.atoms) (hown' : b'.own = b.own) (hid : b'.ids S.has) (hs : Stored w (ρ.blk i) (ρ.off i + o) vs w') :
    Rel Γ ρ { S with mem := upd S.mem i b' } a w' := by
  obtain ⟨hput, hle⟩ := hp
  have hhas : ∀ j, ({ S with mem := upd S.mem i b' } : St).has j ↔ S.has j := fun j => by
    simp only [St.has, look_upd]; split
    · rename_i e; subst e; simp [hl]
    · rfl
  have hbase := ((h.mem i b hl).1.mine hown).1
  have hlen : (b'.cells ρ).length = (b.cells ρ).length := by rw [hput]; simp; omega
  refine ⟨h.tm, h.df, ?_, ?_, ?_, h.pin, h.nx, h.wfT, idsL_mono (fun j hj => (hhas j).2 hj) h.idT⟩
  · intro j c hj
    simp only [look_upd] at hj
    split at hj
    · rename_i hij
      subst hij
      simp only [Option.some.injEq] at hj; subst hj
      obtain ⟨hok, _⟩ := h.mem i b hl
      obtain ⟨m1, m2, m3⟩ := hok.mine hown
      refine ⟨⟨hat, fun k v hk => ?_, fun _ => ⟨m1, by rw [hs.size]; exact m2, fun k hk => ?_⟩, fun hf => by rw [hown', hown] at hf; cases hf⟩, Blk.ids_mono (fun j hj => (hhas j).2 hj) hid⟩
      · rw [hs.cell]
        simp only [true_and]
        rw [hput] at hk
        by_cases hr : o ≤ k ∧ k < o + vs.length
        · rw [if_pos (by omega)]
          rw [List.getElem?_append_left (by simp; omega), List.getElem?_append_right (by simp; omega)] at hk
          simp only [List.length_take] at hk
          rw [show k - min o (b.cells ρ).length = k - o from by omega] at hk
          rw [show ρ.off i + k - (ρ.off i + o) = k - o from by omega]; exact hk
        · rw [if_neg (by omega)]
          refine hok.cell k v ?_
          by_cases hlo : k < o
          · rw [List.getElem?_append_left (by simp; omega), List.getElem?_append_left (by simp; omega), List.getElem?_take_of_lt hlo] at hk; exact hk
          · rw [List.getElem?_append_right (by simp; omega)] at hk
            simp only [List.length_append, List.length_take, List.getElem?_drop] at hk
            rw [show o + vs.length + (k - (min o (b.cells ρ).length + vs.length)) = k from by omega] at hk; exact hk
      · rw [hs.frozen]; exact m3 k (by omega)
    · rename_i hij
      obtain ⟨hok, hids⟩ := h.mem j c hj
      refine ⟨⟨hok.atoms, fun k v hk => ?_, fun ho => ?_, hok.theirs⟩, Blk.ids_mono (fun j hj => (hhas j).2 hj) hids⟩
      · rw [hs.cell, if_neg]
        · exact hok.cell k v hk
        · rintro ⟨e, -⟩
          simp only at e
          cases hoc : c.own with
          | true => exact h.dj j i c b hj hl hoc hown (Ne.symm hij) e
          | false => have := hok.theirs hoc; omega
      · obtain ⟨m1, m2, m3⟩ := hok.mine ho
        exact ⟨m1, by rw [hs.size]; exact m2, fun k hk => by rw [hs.frozen]; exact m3 k hk⟩
  · intro j k c d hj hk hoj hok hne
    simp only [look_upd] at hj hk
    have fix : ∀ j c, (if i = j then some b' else look S.mem j) = some c → c.own = true → ∃ c', look S.mem j = some c' ∧ c'.own = true := fun j c hj ho => by
      split at hj
      · rename_i e; subst e; exact ⟨b, hl, hown⟩
      · exact ⟨c, hj, ho⟩
    obtain ⟨c', h1, h2⟩ := fix j c hj hoj
    obtain ⟨d', h3, h4⟩ := fix k d hk hok
    exact h.dj j k c' d' h1 h3 h2 h4 hne
  · refine h.below.trans ⟨hs.os, hs.tape, hs.output, by rw [hs.size]; exact Nat.le_refl _, fun k hk => hs.block k ?_⟩
    omega
end Go.Sx

/- The symbolic layer, part E: operations that only compute. -/
namespace Go.Sx

/-- What is known of a type. -/
structure TyI where
  d : TypeDesc
  sz : Nat
  bytes : Nat
  z : SV
  pl : Bool

def TypeDesc.isAggB : TypeDesc → Bool
  | .struct _ => true
  | .array _ _ => true
  | _ => false

structure TyOk (P : Program) (t : TypeId) (i : TyI) : Prop where
  und : P.underlying t = some i.d
  info : ∃ j, P.info? t = some j ∧ j.size = i.sz ∧ j.bytes = i.bytes ∧ ∀ ρ, j.zero = some (i.z.den ρ)
  wf : wf i.z
  ids : ∀ p, i.z.ids p
  plain : i.pl = true → P.stoodInHeld t = false ∧ P.eqGuardType P.depth t = false ∧ ∀ fs, i.d = .struct fs → ∀ f ∈ fs.toList, f.name ≠ "_"

abbrev Tab := TypeId → Option TyI
def TabOk (P : Program) (tab : Tab) : Prop := ∀ t i, tab t = some i → TyOk P t i

section
variable {P : Program} {w : World}
theorem run_und {t : TypeId} {i : TyI} (h : TyOk P t i) : (underlying t).run P w = .ok i.d w := by
  simp [underlying, h.und]
theorem run_size {t : TypeId} {i : TyI} (h : TyOk P t i) : (sizeOf t).run P w = .ok i.sz w := by
  obtain ⟨j, h1, h2, -⟩ := h.info
  simp [sizeOf, typeInfo, h1, h2]
theorem run_isAgg {t : TypeId} {i : TyI} (h : TyOk P t i) : (isAgg t).run P w = .ok (TypeDesc.isAggB i.d) w := by
  simp only [isAgg, Sem.run_bind, run_und h, Result.andThen_ok]
  cases i.d <;> rfl
theorem run_zero {t : TypeId} {i : TyI} (h : TyOk P t i) (ρ : Env) : (zeroValue t).run P w = .ok (i.z.den ρ) w := by
  obtain ⟨j, h1, -, -, h2⟩ := h.info
  simp [zeroValue, typeInfo, h1, h2 ρ]
end

def numOf : SV → Option (Bool × IntKind × Int)
  | .lit k n => some (true, k, n)
  | .int k n => some (false, k, n)
  | _ => none

theorem numOf_den {v : SV} {b : Bool} {k : IntKind} {n : Int} (h : numOf v = some (b, k, n)) (ρ : Env) : v.den ρ = .int k n := by
  cases v <;> simp [numOf] at h <;> (obtain ⟨-, rfl, rfl⟩ := h; simp [SV.den])

def mkNum (lit : Bool) (k : IntKind) (n : Int) : SV :=
  match lit with
  | true => .lit k n
  | false => .int k n

theorem mkNum_den (lit : Bool) (k : IntKind) (n : Int) (ρ : Env) : (mkNum lit k n).den ρ = .int k n := by cases lit <;> simp [mkNum, SV.den]

def mkBool (lit : Bool) (b : Bool) : SV :=
  match lit with
  | true => match b with
    | true => .tt
    | false => .ff
  | false => .bool b

theorem mkBool_den (lit : Bool) (b : Bool) (ρ : Env) : (mkBool lit b).den ρ = .bool b := by cases lit <;> cases b <;> simp [mkBool, SV.den]

/-- A value that holds no place. -/
def plainV : SV → Prop
  | .lit _ _ | .int _ _ | .tt | .ff | .bool _ => True
  | _ => False

theorem plainV.wf {v : SV} (h : plainV v) : wf v := by cases v <;> first | (simp only [Sx.wf]; done) | exact h.elim
theorem plainV.ids {v : SV} (h : plainV v) (p : Nat → Prop) : v.ids p := by cases v <;> first | (simp [SV.ids]; done) | exact h.elim
theorem plain_num (b : Bool) (k : IntKind) (n : Int) : plainV (mkNum b k n) := by cases b <;> trivial
theorem plain_bool (b c : Bool) : plainV (mkBool b c) := by cases b <;> cases c <;> trivial

def bitsI (op : BinOp) (k : IntKind) (x y : Int) : Int :=
  match op with
  | .and => k.wrap (BitVec.ofInt k.bits x &&& BitVec.ofInt k.bits y).toNat
  | .or => k.wrap (BitVec.ofInt k.bits x ||| BitVec.ofInt k.bits y).toNat
  | .xor => k.wrap (BitVec.ofInt k.bits x ^^^ BitVec.ofInt k.bits y).toNat
  | _ => k.wrap (BitVec.ofInt k.bits x &&& ~~~ BitVec.ofInt k.bits y).toNat

def shlI (k : IntKind) (x y : Int) : Int := k.wrap (x * 2 ^ (min y.toNat k.bits))
def shrI (k : IntKind) (x y : Int) : Int := x.fdiv (2 ^ (min y.toNat k.bits))

/-- Two numbers. -/
def binN (op : BinOp) (lx : Bool) (k : IntKind) (x : Int) (ly : Bool) (k' : IntKind) (y : Int) : T SV :=
  match op with
  | .shl => match ly with
    | true => match decide (y < 0) with
      | false => .ret (mkNum lx k (shlI k x y))
      | true => .fail "shl"
    | false => .need (0 ≤ y) (.ret (.int k (shlI k x y)))
  | .shr => match ly with
    | true => match decide (y < 0) with
      | false => .ret (mkNum lx k (shrI k x y))
      | true => .fail "shr"
    | false => .need (0 ≤ y) (.ret (.int k (shrI k x y)))
  | op => match decide (k = k') with
    | false => .fail "binOp: kinds"
    | true => match op with
      | .add => .ret (mkNum (lx && ly) k (k.wrap (x + y)))
      | .sub => .ret (mkNum (lx && ly) k (k.wrap (x - y)))
      | .mul => .ret (mkNum (lx && ly) k (k.wrap (x * y)))
      | .and => .ret (mkNum (lx && ly) k (bitsI .and k x y))
      | .or => .ret (mkNum (lx && ly) k (bitsI .or k x y))
      | .xor => .ret (mkNum (lx && ly) k (bitsI .xor k x y))
      | .andNot => .ret (mkNum (lx && ly) k (bitsI .andNot k x y))
      | .quo => match ly with
        | true => match decide (y = 0) with
          | false => .ret (mkNum lx k (k.wrap (x.tdiv y)))
          | true => .fail "quo"
        | false => .need (¬ y = 0) (.ret (.int k (k.wrap (x.tdiv y))))
      | .rem => match ly with
        | true => match decide (y = 0) with
          | false => .ret (mkNum lx k (x.tmod y))
          | true => .fail "rem"
        | false => .need (¬ y = 0) (.ret (.int k (x.tmod y)))
      | .eql => .ret (mkBool (lx && ly) (x == y))
      | .neq => .ret (mkBool (lx && ly) (x != y))
      | .lss => .ret (mkBool (lx && ly) (decide (x < y)))
      | .leq => .ret (mkBool (lx && ly) (decide (x ≤ y)))
      | .gtr => .ret (mkBool (lx && ly) (decide (x > y)))
      | .geq => .ret (mkBool (lx && ly) (decide (x ≥ y)))
      | _ => .fail "binOp"

theorem binN_plain {op : BinOp} {lx : Bool} {k : IntKind} {x : Int} {ly : Bool} {k' : IntKind} {y : Int} {v : SV} (h : T.Reach (binN op lx k x ly k' y) v) : plainV v := by
  unfold binN at h
  repeat' split at h
  all_goals first
    | exact (T.reach_fail h).elim
    | (rw [T.reach_ret] at h; subst h; first | exact plain_num _ _ _ | exact plain_bool _ _)
    | (rw [T.reach_need, T.reach_ret] at h; obtain ⟨-, rfl⟩ := h; trivial)

theorem run_binN {P : Program} {w : World} {op : BinOp} {t : TypeId} {lx : Bool} {k : IntKind} {x : Int} {ly : Bool} {k' : IntKind} {y : Int} {v : SV} (h : T.Reach (binN op lx k x ly k' y) v) (ρ : Env) :
    (binOp op t (.int k x) (.int k' y)).run P w = .ok (v.den ρ) w := by
  unfold binN at h
  repeat' split at h
  all_goals first
    | exact (T.reach_fail h).elim
    | skip
  all_goals first
    | (rw [T.reach_need, T.reach_ret] at h; obtain ⟨hn, rfl⟩ := h)
    | (rw [T.reach_ret] at h; subst h)
  all_goals (try simp only [mkNum_den, mkBool_den, SV.den])
  all_goals (try (have hk := of_decide_eq_true (by assumption : decide (k = k') = true)))
  all_goals (try subst hk)
  all_goals (try simp [binOp, Op.intArith, Op.intDiv, Op.intBits, Op.intCmp, Op.shift, bitsI, shlI, shrI, *])
  all_goals (try omega)
  all_goals (intro hz; rename_i hd _; first | exact absurd hz (of_decide_eq_false hd) | (rename_i hd2; exact absurd hz (of_decide_eq_false hd2)) | simp_all)

/-- '&&', '||': of two truths, or of one and a constant. -/
def pickB (c : Bool) (a b : SV) : T SV :=
  match a, b with
  | .bool x, .bool y => .ret (.bool (cond c x y))
  | .bool x, .ff => .ret (.bool (c && x))
  | .tt, .bool y => .ret (.bool (c || y))
  | a, b => .ite c (.ret a) (.ret b)

theorem pickB_spec {c : Bool} {a b v : SV} (h : T.Reach (pickB c a b) v) : (∀ ρ, v.den ρ = if c then a.den ρ else b.den ρ) ∧ (wf a → wf b → wf v) ∧ (∀ p, a.ids p → b.ids p → v.ids p) := by
  unfold pickB at h
  split at h
  · rw [T.reach_ret] at h; subst h
    refine ⟨fun ρ => ?_, fun _ _ => by simp only [wf], fun p _ _ => by simp [SV.ids]⟩
    cases c <;> simp [SV.den]
  · rw [T.reach_ret] at h; subst h
    refine ⟨fun ρ => ?_, fun _ _ => by simp only [wf], fun p _ _ => by simp [SV.ids]⟩
    cases c <;> simp [SV.den]
  · rw [T.reach_ret] at h; subst h
    refine ⟨fun ρ => ?_, fun _ _ => by simp only [wf], fun p _ _ => by simp [SV.ids]⟩
    cases c <;> simp [SV.den]
  · rw [T.reach_ite] at h
    rcases h with ⟨rfl, h⟩ | ⟨rfl, h⟩
    · rw [T.reach_ret] at h; subst h; exact ⟨fun ρ => by simp, fun h _ => h, fun p h _ => h⟩
    · rw [T.reach_ret] at h; subst h; exact ⟨fun ρ => by simp, fun _ h => h, fun p _ h => h⟩

def mulN (i e : Nat) : Nat :=
  match e with
  | 1 => i
  | _ => i * e
theorem mulN_eq (i e : Nat) : mulN i e = i * e := by unfold mulN; split <;> simp

theorem SN.den_lit (n : Nat) (ρ : Env) : (SN.lit n).den ρ = n := rfl
theorem SN.den_opn (n : Nat) (ρ : Env) : (SN.opn n).den ρ = n := rfl

def addSN (x : SN) (o i : Nat) : Option (Nat × SN) :=   -- a literal place and an open one, moved by an open number
  match x with
  | .lit j => some (o + j, .opn i)
  | .opn j => some (o, .opn (j + i))
  | .var _ => none

/-- The address of an array's or a slice's element. -/
def indexS (tab : Tab) (t : TypeId) (x i : SV) : T SV :=
  match tab t with
  | none => .fail "indexAddr: type"
  | some ti => match ti.d, x with
    | .array n e, .ptr b o y => match tab e with
      | none => .fail "indexAddr: element"
      | some te => match i with
        | .lit _ j => match decide (0 ≤ j), Nat.blt j.toNat n with
          | true, true => .ret (.ptr b (o + j.toNat * te.sz) y)
          | _, _ => .fail "indexAddr: out of range"
        | .int _ j => .need (0 ≤ j ∧ j < n) (match addSN y o (mulN j.toNat te.sz) with
          | some (o', y') => .ret (.ptr b o' y')
          | none => .fail "indexAddr: at a capacity")
        | _ => .fail "indexAddr: index"
    | .slice e, .slice b o y len _ => match tab e with
      | none => .fail "indexAddr: element"
      | some te => match len with
        | .var _ => .fail "indexAddr: length"
        | .opn n => match i with
          | .lit _ j => .need (0 ≤ j ∧ j < n) (.ret (.ptr b (o + j.toNat * te.sz) y))
          | .int _ j => .need (0 ≤ j ∧ j < n) (match addSN y o (mulN j.toNat te.sz) with
            | some (o', y') => .ret (.ptr b o' y')
            | none => .fail "indexAddr: at a capacity")
          | _ => .fail "indexAddr: index"
        | .lit n => match i with
          | .lit _ j => match decide (0 ≤ j), Nat.blt j.toNat n with
            | true, true => .ret (.ptr b (o + j.toNat * te.sz) y)
            | _, _ => .fail "indexAddr: out of range"
          | .int _ j => .need (0 ≤ j ∧ j < n) (match addSN y o (mulN j.toNat te.sz) with
            | some (o', y') => .ret (.ptr b o' y')
            | none => .fail "indexAddr: at a capacity")
          | _ => .fail "indexAddr: index"
    | _, _ => .fail "indexAddr"

theorem add_none (b o n : Nat) : Addr.add ⟨b, o, none⟩ n = ⟨b, o + n, none⟩ := by
  unfold Addr.add; split
  · rename_i h; subst h; rfl
  · rfl

theorem addSN_spec {x : SN} {o i o' : Nat} {y' : SN} (h : addSN x o i = some (o', y')) (ρ : Env) : o' + y'.den ρ = o + x.den ρ + i ∧ ∀ p, y'.ids p := by
  unfold addSN at h
  split at h
  · simp at h; obtain ⟨rfl, rfl⟩ := h; simp [SN.den, SN.ids]
  · simp at h; obtain ⟨rfl, rfl⟩ := h; simp [SN.den, SN.ids]; omega
  · cases h

theorem run_index_array {P : Program} {w : World} {t e : TypeId} {n : Nat} {ti te : TyI} {b o : Nat} {i : Value} {k : IntKind} {j : Int} (ht : TyOk P t ti) (he : TyOk P e te) (hd : ti.d = .array n e) (hi : i = .int k j) (h0 : 0 ≤ j) (h1 : j < n) :
    (Instr.indexAt t (.pointer (some ⟨b, o, none⟩)) i).run P w = .ok (.pointer (some ⟨b, o + j.toNat * te.sz, none⟩)) w := by
  subst hi
  have hu : ∀ w, (underlying t).run P w = .ok (.array n e) w := fun w => by rw [run_und ht, hd]
  have hs : ∀ w, (sizeOf e).run P w = .ok te.sz w := fun w => run_size he
  simp [Instr.indexAt, asIntOf, hu, hs, Instr.sureAddr, h0, h1, add_none]

theorem run_index_slice {P : Program} {w : World} {t e : TypeId} {n c : Nat} {ti te : TyI} {b o : Nat} {i : Value} {k : IntKind} {j : Int} (ht : TyOk P t ti) (he : TyOk P e te) (hd : ti.d = .slice e) (hi : i = .int k j) (h0 : 0 ≤ j) (h1 : j < n) :
    (Instr.indexAt t (.slice (some ⟨b, o, none⟩) n c) i).run P w = .ok (.pointer (some ⟨b, o + j.toNat * te.sz, none⟩)) w := by
  subst hi
  have hu : ∀ w, (underlying t).run P w = .ok (.slice e) w := fun w => by rw [run_und ht, hd]
  have hs : ∀ w, (sizeOf e).run P w = .ok te.sz w := fun w => run_size he
  simp [Instr.indexAt, asIntOf, hu, hs, h0, h1, add_none]

theorem lit_range {j : Int} {n : Nat} (h0 : decide (0 ≤ j) = true) (h1 : Nat.blt j.toNat n = true) : 0 ≤ j ∧ j < n := by
  have a := of_decide_eq_true h0
  have b : j.toNat < n := Nat.le_of_ble_eq_true h1
  omega

theorem indexS_spec {P : Program} {tab : Tab} (hT : TabOk P tab) {t : TypeId} {x i v : SV} (h : T.Reach (indexS tab t x i) v) :
    wf v ∧ (∀ p, x.ids p → v.ids p) ∧ ∀ ρ w, (Instr.indexAt t (x.den ρ) (i.den ρ)).run P w = .ok (v.den ρ) w := by
  unfold indexS at h
  split at h
  · exact (T.reach_fail h).elim
  rename_i ti hti
  split at h
  · rename_i n e b o y hd
    split at h
    · exact (T.reach_fail h).elim
    rename_i te hte
    split at h
    · rename_i k j
      split at h
      · rename_i h0 h1
        rw [T.reach_ret] at h; subst h
        obtain ⟨h0, h1⟩ := lit_range h0 h1
        refine ⟨by simp only [wf], fun p hp => ?_, fun ρ w => ?_⟩
        · simp only [SV.ids] at *; exact hp
        · simp only [SV.den]
          rw [run_index_array (hT _ _ hti) (hT _ _ hte) hd rfl h0 h1]
          congr 4; omega
      · exact (T.reach_fail h).elim
    · rename_i k j
      rw [T.reach_need] at h
      obtain ⟨⟨h0, h1⟩, h⟩ := h
      split at h
      · rename_i o' y' ha
        rw [T.reach_ret] at h; subst h
        refine ⟨by simp only [wf], fun p hp => ?_, fun ρ w => ?_⟩
        · simp only [SV.ids] at *; exact ⟨hp.1, (addSN_spec ha ⟨id, id, id, fun _ => undef⟩).2 p⟩
        · simp only [SV.den]
          rw [run_index_array (hT _ _ hti) (hT _ _ hte) hd rfl h0 h1, (addSN_spec ha ρ).1, mulN_eq]
          congr 4; omega
      · exact (T.reach_fail h).elim
    · exact (T.reach_fail h).elim
  · rename_i e b o y len c hd
    split at h
    · exact (T.reach_fail h).elim
    rename_i te hte
    split at h
    · exact (T.reach_fail h).elim
    · rename_i n
      split at h
      · rename_i k j
        rw [T.reach_need, T.reach_ret] at h
        obtain ⟨⟨h0, h1⟩, rfl⟩ := h
        refine ⟨by simp only [wf], fun p hp => ?_, fun ρ w => ?_⟩
        · simp only [SV.ids] at *; exact ⟨hp.1, hp.2.1⟩
        · simp only [SV.den, SN.den_opn]
          rw [run_index_slice (hT _ _ hti) (hT _ _ hte) hd rfl h0 h1]
          congr 4; omega
      · rename_i k j
        rw [T.reach_need] at h
        obtain ⟨⟨h0, h1⟩, h⟩ := h
        split at h
        · rename_i o' y' ha
          rw [T.reach_ret] at h; subst h
          refine ⟨by simp only [wf], fun p hp => ?_, fun ρ w => ?_⟩
          · simp only [SV.ids] at *; exact ⟨hp.1, (addSN_spec ha ⟨id, id, id, fun _ => undef⟩).2 p⟩
          · have := (addSN_spec ha ρ).1
            simp only [SV.den, SN.den_opn]
            rw [run_index_slice (hT _ _ hti) (hT _ _ hte) hd rfl h0 h1, this, mulN_eq]
            congr 4; omega
        · exact (T.reach_fail h).elim
      · exact (T.reach_fail h).elim
    · rename_i n
      split at h
      · rename_i k j
        split at h
        · rename_i h0 h1
          rw [T.reach_ret] at h; subst h
          obtain ⟨h0, h1⟩ := lit_range h0 h1
          refine ⟨by simp only [wf], fun p hp => ?_, fun ρ w => ?_⟩
          · simp only [SV.ids] at *; exact ⟨hp.1, hp.2.1⟩
          · simp only [SV.den, SN.den_lit]
            rw [run_index_slice (hT _ _ hti) (hT _ _ hte) hd rfl h0 h1]
            congr 4; omega
        · exact (T.reach_fail h).elim
      · rename_i k j
        rw [T.reach_need] at h
        obtain ⟨⟨h0, h1⟩, h⟩ := h
        split at h
        · rename_i o' y' ha
          rw [T.reach_ret] at h; subst h
          refine ⟨by simp only [wf], fun p hp => ?_, fun ρ w => ?_⟩
          · simp only [SV.ids] at *; exact ⟨hp.1, (addSN_spec ha ⟨id, id, id, fun _ => undef⟩).2 p⟩
          · have := (addSN_spec ha ρ).1
            simp only [SV.den, SN.den_lit]
            rw [run_index_slice (hT _ _ hti) (hT _ _ hte) hd rfl h0 h1, this, mulN_eq]
            congr 4; omega
        · exact (T.reach_fail h).elim
      · exact (T.reach_fail h).elim
  · exact (T.reach_fail h).elim

/-- A part of a value: the cells from 'o' on, as a value of a type. -/
def partS (tab : Tab) (t : TypeId) (x : SV) (o : Nat) : T SV :=
  match tab t with
  | none => .fail "part: type"
  | some ti => (atomsOf x).bind fun ps => match TypeDesc.isAggB ti.d with
    | true => readSt ps o ti.sz false
    | false => match Nat.beq ti.sz 1 with
      | true => readSt ps o 1 true
      | false => .fail "part: size"

theorem idsL_mem {p : Nat → Prop} {l : List SV} {v : SV} (h : idsL p l) (hv : v ∈ l) : v.ids p := idsL_iff.1 h v hv

theorem gather_ids {p : Nat → Prop} {ps r : List SV} {c : Nat} (h : idsL p ps) (hg : gather ps c = some r) : idsL p r := by
  induction ps generalizing c r with
  | nil => cases c <;> simp [gather] at hg; subst hg; trivial
  | cons q ps ih =>
    simp only [idsL] at h
    cases c with
    | zero => simp [gather] at hg; subst hg; trivial
    | succ c' =>
      simp only [gather] at hg
      split at hg
      · split at hg
        · rename_i r' hr
          simp at hg; subst hg
          exact ⟨h.1, ih h.2 hr⟩
        · cases hg
      · split at hg
        · simp at hg; subst hg; simp [idsL, SV.ids]
        · cases hg

theorem skipTo_ids {p : Nat → Prop} {ps r : List SV} {c : Nat} (h : idsL p ps) (hg : skipTo ps c = some r) : idsL p r := by
  induction ps generalizing c r with
  | nil => cases c <;> simp [skipTo] at hg; subst hg; trivial
  | cons q ps ih =>
    have h' := h
    simp only [idsL] at h
    simp only [skipTo] at hg
    split at hg
    · exact ih h.2 hg
    · split at hg
      · simp at hg; subst hg; exact h'
      · split at hg
        · simp at hg; subst hg; exact ⟨by simp [SV.ids], h.2⟩
        · cases hg

theorem mkAgg_ids {p : Nat → Prop} {ps : List SV} (h : idsL p ps) : (mkAgg ps).ids p := by
  unfold mkAgg
  split
  · simp [SV.ids]
  · simpa [SV.ids] using h

theorem readWalk_ids {p : Nat → Prop} {ps : List SV} {o c : Nat} {v : SV} (h : idsL p ps) (hr : T.Reach (readWalk ps o c) v) : v.ids p := by
  unfold readWalk at hr
  split at hr
  · rename_i qs hq
    split at hr
    · rename_i rs hg
      rw [T.reach_ret] at hr; subst hr
      exact mkAgg_ids (gather_ids (skipTo_ids h hq) hg)
    · exact (T.reach_fail hr).elim
  · exact (T.reach_fail hr).elim

theorem readSt_ids {p : Nat → Prop} {ps : List SV} {o c : Nat} {sc : Bool} {v : SV} (h : idsL p ps) (hr : T.Reach (readSt ps o c sc) v) : v.ids p := by
  unfold readSt at hr
  split at hr
  · split at hr
    · rename_i bef q aft r hf
      obtain ⟨h1, -, -⟩ := findPart_spec hf
      split at hr
      · rw [T.reach_ret] at hr; subst hr; simp [SV.ids]
      · rw [T.reach_ret] at hr; subst hr
        exact idsL_mem h (by rw [h1]; simp)
    · exact (T.reach_fail hr).elim
  · split at hr
    · split at hr
      · split at hr <;> (rw [T.reach_ret] at hr; subst hr; simp [SV.ids])
      · exact readWalk_ids h hr
    · exact readWalk_ids h hr

theorem atomsOf_ids {p : Nat → Prop} {v : SV} {ps : List SV} (h : v.ids p) (hr : T.Reach (atomsOf v) ps) : idsL p ps := by
  cases v <;> simp only [atomsOf, T.reach_ret, T.reach_need] at hr
  case tup => exact (T.reach_fail hr).elim
  case junk => exact (T.reach_fail hr).elim
  case raw => obtain ⟨-, rfl⟩ := hr; simp [idsL, SV.ids]
  case agg => subst hr; simpa [SV.ids] using h
  all_goals (subst hr; simp_all [idsL, SV.ids])

theorem partS_spec {P : Program} {tab : Tab} (hT : TabOk P tab) {t : TypeId} {x v : SV} {o : Nat} (hx : wf x) (h : T.Reach (partS tab t x o) v) :
    wf v ∧ (∀ p, x.ids p → v.ids p) ∧ ∀ ρ w, (part t (x.den ρ).cells o).run P w = .ok (v.den ρ) w := by
  unfold partS at h
  split at h
  · exact (T.reach_fail h).elim
  rename_i ti hti
  rw [T.reach_bind] at h
  obtain ⟨ps, hps, h⟩ := h
  have hat := atomsOf_atoms hx hps
  have hu : ∀ w, (isAgg t).run P w = .ok (TypeDesc.isAggB ti.d) w := fun w => run_isAgg (hT _ _ hti)
  have hsz : ∀ w, (sizeOf t).run P w = .ok ti.sz w := fun w => run_size (hT _ _ hti)
  split at h
  · rename_i hagg
    have hg := fun ρ => got_st (ρ := ρ) (fun e => by cases e) hat h
    refine ⟨(hg ⟨id, id, id, fun _ => undef⟩).1, fun p hp => readSt_ids (atomsOf_ids hp hps) h, fun ρ w => ?_⟩
    obtain ⟨-, hg1, hg2⟩ := hg ρ
    have hc := atomsOf_cells (ρ := ρ) hps
    simp only [part, Sem.run_bind, hu, hagg, Result.andThen_ok, if_true, hsz, Sem.run_pure]
    rw [hg1, hc]
    congr 2
    apply Array.ext'
    simp [List.take_drop]
  · rename_i hagg
    split at h
    · have hg := fun ρ => got_st (ρ := ρ) (fun e => rfl) hat h
      refine ⟨(hg ⟨id, id, id, fun _ => undef⟩).1, fun p hp => readSt_ids (atomsOf_ids hp hps) h, fun ρ w => ?_⟩
      obtain ⟨-, hg1, -⟩ := hg ρ
      have hc := atomsOf_cells (ρ := ρ) hps
      rw [hc] at hg1
      simp only [part, Sem.run_bind, hu, hagg, Result.andThen_ok, Bool.false_eq_true, if_false]
      rw [← Array.getElem?_toList, hg1]; rfl
    · exact (T.reach_fail h).elim
end Go.Sx

/- The symbolic layer, part F: the pure operations, all of them in one function, and what it is worth. -/
namespace Go.Sx

theorem writeWalk_ids {p : Nat → Prop} {ps vs ps' : List SV} {o c : Nat} (h : idsL p ps) (hv : idsL p vs) (hr : T.Reach (writeWalk ps o c vs) ps') : idsL p ps' := by
  unfold writeWalk at hr
  split at hr
  · rename_i a ha
    split at hr
    · rename_i z hz
      rw [T.reach_ret] at hr; subst hr
      exact idsL_append.2 ⟨idsL_append.2 ⟨gather_ids h ha, hv⟩, skipTo_ids h hz⟩
    · exact (T.reach_fail hr).elim
  · exact (T.reach_fail hr).elim

theorem writeSt_ids {p : Nat → Prop} {ps vs ps' : List SV} {o c : Nat} (h : idsL p ps) (hv : idsL p vs) (hr : T.Reach (writeSt ps o c vs) ps') : idsL p ps' := by
  unfold writeSt at hr
  split at hr
  · rename_i bef k n l aft r hf
    obtain ⟨h1, -, -⟩ := findPart_spec hf
    split at hr
    · split at hr
      · split at hr
        · rw [T.reach_ret] at hr; subst hr
          rw [h1, idsL_append] at h
          exact idsL_append.2 ⟨h.1, by simp [SV.ids], h.2.2⟩
        · exact writeWalk_ids h hv hr
      · exact writeWalk_ids h hv hr
    · exact writeWalk_ids h hv hr
  · exact writeWalk_ids h hv hr

theorem writeOpn_ids {p : Nat → Prop} {ps vs ps' : List SV} {o i c : Nat} (h : idsL p ps) (hr : T.Reach (writeOpn ps o i c vs) ps') : idsL p ps' := by
  unfold writeOpn at hr
  split at hr
  · rename_i bef k n l aft r hf
    obtain ⟨h1, -, -⟩ := findPart_spec hf
    split at hr
    · split at hr
      · rw [T.reach_need, T.reach_ret] at hr
        obtain ⟨-, rfl⟩ := hr
        rw [h1, idsL_append] at h
        exact idsL_append.2 ⟨h.1, by simp [SV.ids], h.2.2⟩
      · exact (T.reach_fail hr).elim
    · exact (T.reach_fail hr).elim
  · exact (T.reach_fail hr).elim

theorem writeBlk_ids {p : Nat → Prop} {b b' : Blk} {vs : List SV} {o c : Nat} {x : SN} (h : b.ids p) (hv : idsL p vs) (hr : T.Reach (writeBlk b o x c vs) b') : b'.ids p := by
  unfold writeBlk at hr
  split at hr
  · split at hr
    all_goals (try exact (T.reach_fail hr).elim)
    all_goals (rw [T.reach_bind] at hr; obtain ⟨ps', h1, h2⟩ := hr; rw [T.reach_ret] at h2; subst h2)
    · exact writeSt_ids h hv h1
    · exact writeOpn_ids h h1
  · split at hr
    all_goals (try exact (T.reach_fail hr).elim)
    all_goals (rw [T.reach_bind] at hr; obtain ⟨ps', h1, h2⟩ := hr; rw [T.reach_ret] at h2; subst h2; trivial)

/-! ### Values built of parts -/
def fillS (place : Nat → Option (Nat × Nat)) (ps : List SV) : List (Nat × SV) → T (List SV)
  | [] => .ret ps
  | (i, v) :: rest => match place i with
    | none => .fail "build: no such part"
    | some (off, size) => (atomsOf v).bind fun vs => match Nat.beq (widthL vs) size with
      | true => (writeSt ps off size vs).bind fun ps' => fillS place ps' rest
      | false => .fail "build: a part of the wrong size"

theorem foldl_set (vs : List Value) : ∀ (cs : Array Value) (off k : Nat), off + k + vs.length ≤ cs.size →
    (vs.zipIdx k).foldl (fun cs (p : Value × Nat) => cs.setIfInBounds (off + p.2) p.1) cs = ((cs.toList.take (off + k)) ++ vs ++ cs.toList.drop (off + k + vs.length)).toArray := by
  induction vs with
  | nil => intro cs off k h; simp
  | cons v vs ih =>
    intro cs off k h
    simp only [List.length_cons] at h
    simp only [List.zipIdx_cons, List.foldl_cons]
    rw [ih _ off (k + 1) (by simp; omega)]
    congr 1
    obtain ⟨A⟩ := cs
    simp only [List.setIfInBounds_toArray, List.size_toArray] at h ⊢
    have hA : A = A.take (off + k) ++ A.drop (off + k) := (List.take_append_drop _ _).symm
    generalize hX : A.take (off + k) = X at hA
    generalize hY : A.drop (off + k) = Y at hA
    have hXl : X.length = off + k := by rw [← hX]; simp; omega
    cases Y with
    | nil => rw [hA] at h; simp at h; omega
    | cons y Y =>
      subst hA
      rw [← hXl, List.set_append_right _ _ (Nat.le_refl _), Nat.sub_self, List.set_cons_zero]
      rw [show off + (k + 1) = X.length + 1 from by omega]
      simp only [List.take_length_add_append, List.drop_append, List.append_assoc, List.length_cons]
      rw [List.drop_of_length_le (l := X) (by omega), List.drop_of_length_le (l := X) (by omega)]
      rw [show X.length + 1 + vs.length - X.length = vs.length + 1 from by omega, show X.length + (vs.length + 1) - X.length = vs.length + 1 from by omega]
      simp

theorem fill_part {cs : List Value} {v : Value} {off size : Nat} {cs' : List Value} (hs : v.cells.size = size) (hp : Put cs off v.cells.toList cs') (place : Nat → Option (Nat × Nat)) (i : Nat) (hi : place i = some (off, size)) (rest : List (Nat × Value)) :
    Instr.fill place cs.toArray ((i, v) :: rest) = Instr.fill place cs'.toArray rest := by
  obtain ⟨h1, h2⟩ := hp
  have hl : v.cells.toList.length = v.cells.size := by simp
  rw [hl] at h1 h2
  have hk : (v.cells.zipIdx.foldl (fun cs (x : Value × Nat) => cs.setIfInBounds (off + x.2) x.1) cs.toArray) = cs'.toArray := by
    rw [← Array.foldl_toList, Array.toList_zipIdx, foldl_set _ _ off 0 (by simp; omega), h1]
    simp
  simp only [Instr.fill, hi]
  rw [if_neg (by simp [hs]; omega)]
  congr 1

theorem fillS_spec {place : Nat → Option (Nat × Nat)} : ∀ {parts : List (Nat × SV)} {ps ps' : List SV}, (∀ q ∈ ps, isAtom q) → (∀ x ∈ parts, wf x.2) → T.Reach (fillS place ps parts) ps' →
    (∀ ρ, Instr.fill place (cellsL ρ ps).toArray (parts.map fun x => (x.1, x.2.den ρ)) = some (cellsL ρ ps').toArray) ∧ (∀ q ∈ ps', isAtom q) ∧ (∀ p, idsL p ps → (∀ x ∈ parts, x.2.ids p) → idsL p ps')
  | [], ps, ps', hs, _, h => by
    simp only [fillS, T.reach_ret] at h
    subst h
    exact ⟨fun ρ => rfl, hs, fun p h _ => h⟩
  | (i, v) :: rest, ps, ps', hs, hw, h => by
    simp only [fillS] at h
    split at h
    · exact (T.reach_fail h).elim
    · rename_i off size hi
      rw [T.reach_bind] at h
      obtain ⟨vs, hvs, h⟩ := h
      split at h
      · rename_i hsz
        have hsz := Nat.eq_of_beq_eq_true hsz
        rw [T.reach_bind] at h
        obtain ⟨ps1, h1, h2⟩ := h
        have hv := hw (i, v) (by simp)
        have hva := atomsOf_atoms hv hvs
        have hp := fun ρ => put_st (ρ := ρ) hs hva hsz h1
        obtain ⟨r1, r2, r3⟩ := fillS_spec (hp ⟨id, id, id, fun _ => undef⟩).2 (fun x hx => hw x (by simp [hx])) h2
        refine ⟨fun ρ => ?_, r2, fun p hps hids => ?_⟩
        · have hc := atomsOf_cells (ρ := ρ) hvs
          rw [← r1 ρ, List.map_cons]
          refine fill_part ?_ ?_ place i hi _
          · rw [← Array.length_toList, ← hc, cellsL_length hva, hsz]
          · rw [← hc]; exact (hp ρ).1
        · exact r3 p (writeSt_ids hps (atomsOf_ids (hids (i, v) (by simp)) hvs) h1) (fun x hx => hids x (by simp [hx]))
      · exact (T.reach_fail h).elim

def placesS (tab : Tab) (fs : Array Field) (i : Nat) : Option (Nat × Nat) :=
  match fs[i]? with
  | some f => match tab f.type with
    | some ti => some (f.offset, ti.sz)
    | none => none
  | none => none

def fieldsKnown (tab : Tab) (fs : Array Field) : Bool := fs.toList.all fun f => (tab f.type).isSome

def buildS (tab : Tab) (t : TypeId) (parts : List (Nat × SV)) : T SV :=
  match tab t with
  | none => .fail "build: type"
  | some ti => (atomsOf ti.z).bind fun z => match ti.d with
    | .struct fs => match fieldsKnown tab fs with
      | true => (fillS (placesS tab fs) z parts).bind fun ps => .ret (mkAgg ps)
      | false => .fail "build: a field's type"
    | .array _ e => match tab e with
      | some te => (fillS (fun i => some (i * te.sz, te.sz)) z parts).bind fun ps => .ret (mkAgg ps)
      | none => .fail "build: element"
    | _ => .fail "build: what"

theorem mapM_places {P : Program} {tab : Tab} (hT : TabOk P tab) (w : World) : ∀ (fs : List Field), (∀ f ∈ fs, (tab f.type).isSome = true) →
    (fs.mapM fun f => (do pure (f.offset, ← sizeOf f.type) : Sem (Nat × Nat))).run P w = .ok (fs.map fun f => (f.offset, ((tab f.type).map (·.sz)).getD 0)) w
  | [], _ => by simp
  | f :: fs, h => by
    obtain ⟨ti, hti⟩ := Option.isSome_iff_exists.1 (h f (by simp))
    have ih := mapM_places hT w fs (fun g hg => h g (by simp [hg]))
    rw [List.mapM_cons]
    simp only [Sem.run_bind, run_size (hT _ _ hti), Result.andThen_ok, Sem.run_pure, ih, List.map_cons, hti, Option.map_some, Option.getD_some]

theorem fill_congr {f g : Nat → Option (Nat × Nat)} (h : ∀ i, f i = g i) (cs : Array Value) (l : List (Nat × Value)) : Instr.fill f cs l = Instr.fill g cs l := by
  have : f = g := funext h
  rw [this]

theorem buildS_spec {P : Program} {tab : Tab} (hT : TabOk P tab) {t : TypeId} {parts : List (Nat × SV)} {v : SV} (hw : ∀ x ∈ parts, wf x.2) (h : T.Reach (buildS tab t parts) v) :
    wf v ∧ (∀ p, (∀ x ∈ parts, x.2.ids p) → v.ids p) ∧ ∀ ρ w, (Instr.build t (parts.map fun x => (x.1, x.2.den ρ)).toArray).run P w = .ok (v.den ρ) w := by
  unfold buildS at h
  split at h
  · exact (T.reach_fail h).elim
  rename_i ti hti
  have ok := hT _ _ hti
  rw [T.reach_bind] at h
  obtain ⟨z, hz, h⟩ := h
  have hza := atomsOf_atoms ok.wf hz
  have hzi : ∀ p, idsL p z := fun p => atomsOf_ids (ok.ids p) hz
  split at h
  · rename_i fs hd
    split at h
    · rename_i hk
      rw [T.reach_bind] at h
      obtain ⟨ps, hps, h⟩ := h
      rw [T.reach_ret] at h; subst h
      obtain ⟨f1, f2, f3⟩ := fillS_spec hza hw hps
      refine ⟨mkAgg_wf f2, fun p hp => mkAgg_ids (f3 p (hzi p) hp), fun ρ w => ?_⟩
      have hu : (underlying t).run P w = .ok (.struct fs) w := by rw [run_und ok, hd]
      have hall : ∀ f ∈ fs.toList, (tab f.type).isSome = true := fun f hf => List.all_eq_true.1 hk f hf
      have hm := mapM_places hT w fs.toList hall
      rw [← Array.toList_mapM] at hm
      have hpl : (fs.mapM fun f => (do pure (f.offset, ← sizeOf f.type) : Sem (Nat × Nat))).run P w = .ok (fs.map fun f => (f.offset, ((tab f.type).map (·.sz)).getD 0)) w := by
        simp only [Sem.run_map] at hm
        generalize (fs.mapM fun f => (do pure (f.offset, ← sizeOf f.type) : Sem (Nat × Nat))).run P w = r at hm ⊢
        cases r with
        | ok a w' =>
          simp only [Result.andThen_ok, Result.ok.injEq] at hm
          obtain ⟨hm, rfl⟩ := hm
          have : a = fs.map fun f => (f.offset, ((tab f.type).map (·.sz)).getD 0) := by apply Array.ext'; simpa using hm
          rw [this]
        | halt x w' => cases hm
      have hc := atomsOf_cells (ρ := ρ) hz
      have hfill := f1 ρ
      simp only [Instr.build, Sem.run_bind, run_zero ok ρ, Result.andThen_ok, hu, hpl]
      have hzc : (ti.z.den ρ).cells = (cellsL ρ z).toArray := by rw [hc]
      rw [hzc, fill_congr (g := placesS tab fs) (fun i => ?_), hfill]
      · simp [mkAgg_den]
      · simp only [placesS, Array.getElem?_map]
        cases hfi : fs[i]? with
        | none => rfl
        | some f =>
          have hmem : f ∈ fs.toList := by simpa using Array.mem_of_getElem? hfi
          obtain ⟨tf, htf⟩ := Option.isSome_iff_exists.1 (hall f hmem)
          simp [htf]
    · exact (T.reach_fail h).elim
  · rename_i n e hd
    split at h
    · rename_i te hte
      rw [T.reach_bind] at h
      obtain ⟨ps, hps, h⟩ := h
      rw [T.reach_ret] at h; subst h
      obtain ⟨f1, f2, f3⟩ := fillS_spec hza hw hps
      refine ⟨mkAgg_wf f2, fun p hp => mkAgg_ids (f3 p (hzi p) hp), fun ρ w => ?_⟩
      have hu : (underlying t).run P w = .ok (.array n e) w := by rw [run_und ok, hd]
      have hc := atomsOf_cells (ρ := ρ) hz
      have hfill := f1 ρ
      simp only [Instr.build, Sem.run_bind, run_zero ok ρ, Result.andThen_ok, hu, run_size (hT _ _ hte)]
      have hzc : (ti.z.den ρ).cells = (cellsL ρ z).toArray := by rw [hc]
      rw [hzc, hfill]
      simp [mkAgg_den]
    · exact (T.reach_fail h).elim
  · exact (T.reach_fail h).elim
end Go.Sx

/- The symbolic layer, part G: one operation. -/
namespace Go.Sx
open Go.RowKit (Below)

def convertS (tab : Tab) (src dst : TypeId) (x : SV) : T SV :=
  match tab src, tab dst with
  | some _, some td => match td.d, numOf x with
    | .int k, some (l, _, n) => .ret (mkNum l k (k.wrap n))
    | _, _ => .fail "convert"
  | _, _ => .fail "convert: type"

theorem convertS_spec {P : Program} {tab : Tab} (hT : TabOk P tab) {src dst : TypeId} {x v : SV} (h : T.Reach (convertS tab src dst x) v) :
    plainV v ∧ ∀ ρ w, (convert src dst (x.den ρ)).run P w = .ok (v.den ρ) w := by
  unfold convertS at h
  split at h
  · rename_i ts td hs hd
    split at h
    · rename_i k l k' n hk hn
      rw [T.reach_ret] at h; subst h
      refine ⟨plain_num _ _ _, fun ρ w => ?_⟩
      have h1 : (underlying src).run P w = .ok ts.d w := run_und (hT _ _ hs)
      have h2 : (underlying dst).run P w = .ok (.int k) w := by rw [run_und (hT _ _ hd), hk]
      rw [numOf_den hn, mkNum_den]
      simp [convert, h1, h2, Conv.intToInt]
    · exact (T.reach_fail h).elim
  · exact (T.reach_fail h).elim

def unS (op : UnOp) (x : SV) : T SV :=
  match op, x with
  | .not, .tt => .ret .ff
  | .not, .ff => .ret .tt
  | .not, .bool b => .ret (.bool (!b))
  | .neg, x => match numOf x with
    | some (l, k, n) => .ret (mkNum l k (k.wrap (0 - n)))
    | none => .fail "neg"
  | .xor, x => match numOf x with
    | some (l, k, n) => .ret (mkNum l k (bitsI .xor k (if k.signed then -1 else k.max) n))
    | none => .fail "xor"
  | _, _ => .fail "unOp"

theorem unS_spec {P : Program} {op : UnOp} {x v : SV} (h : T.Reach (unS op x) v) : plainV v ∧ ∀ ρ w, (Op.unary op (x.den ρ)).run P w = .ok (v.den ρ) w := by
  unfold unS at h
  split at h
  · rw [T.reach_ret] at h; subst h; exact ⟨trivial, fun ρ w => by simp [SV.den, Op.unary]⟩
  · rw [T.reach_ret] at h; subst h; exact ⟨trivial, fun ρ w => by simp [SV.den, Op.unary]⟩
  · rw [T.reach_ret] at h; subst h; exact ⟨trivial, fun ρ w => by simp [SV.den, Op.unary]⟩
  · split at h
    · rename_i l k n hn
      rw [T.reach_ret] at h; subst h
      refine ⟨plain_num _ _ _, fun ρ w => ?_⟩
      rw [numOf_den hn, mkNum_den]; simp [Op.unary, Op.intArith]
    · exact (T.reach_fail h).elim
  · split at h
    · rename_i l k n hn
      rw [T.reach_ret] at h; subst h
      refine ⟨plain_num _ _ _, fun ρ w => ?_⟩
      rw [numOf_den hn, mkNum_den]; simp [Op.unary, Op.intBits, bitsI]
    · exact (T.reach_fail h).elim
  · exact (T.reach_fail h).elim

/-- A bound of a slice expression that is written out. -/
def boundS (d : Nat) : Option SV → Option Nat
  | none => some d
  | some (.lit _ n) => match decide (0 ≤ n) with
    | true => some n.toNat
    | false => none
  | _ => none

/-- A slice of an array that lies in memory, its bounds written out. -/
def sliceS (tab : Tab) (t : TypeId) (x : SV) (lo hi : Option SV) : T SV :=
  match tab t with
  | none => .fail "slice: type"
  | some ti => match ti.d, x with
    | .array n e, .ptr b o y => match tab e, boundS 0 lo, boundS n hi with
      | some te, some l, some h => match Nat.ble h n, Nat.ble l h with
        | true, true => .ret (.slice b (match Nat.beq n l with
          | true => o
          | false => o + l * te.sz) y (.lit (h - l)) (.lit (n - l)))
        | _, _ => .fail "slice: out of range"
      | _, _, _ => .fail "slice: bounds"
    | _, _ => .fail "slice: what"

theorem run_bound {P : Program} {w : World} {d m : Nat} {x : Option SV} {n : Nat} {code : BoundsCode} (h : boundS d x = some n) (hm : n ≤ m) (ρ : Env) :
    (match x.map (SV.den ρ) with | some v => Instr.sliceBound v m code | none => pure d : Sem Nat).run P w = .ok n w := by
  unfold boundS at h
  split at h
  · simp at h; subst h; simp
  · rename_i k i
    split at h
    · rename_i h0
      have h0 := of_decide_eq_true h0
      simp at h; subst h
      simp only [Option.map_some, SV.den, Instr.sliceBound, asIntOf, Sem.run_bind, Sem.run_pure, Result.andThen_ok, Sem.run_ite]
      rw [if_pos (by omega)]
    · cases h
  · cases h

theorem sliceS_spec {P : Program} {tab : Tab} (hT : TabOk P tab) {t : TypeId} {x v : SV} {lo hi : Option SV} (h : T.Reach (sliceS tab t x lo hi) v) :
    wf v ∧ (∀ p, x.ids p → v.ids p) ∧ ∀ ρ w, (Instr.sliceAt t (x.den ρ) (lo.map (SV.den ρ)) (hi.map (SV.den ρ)) none).run P w = .ok (v.den ρ) w := by
  unfold sliceS at h
  split at h
  · exact (T.reach_fail h).elim
  rename_i ti hti
  split at h
  · rename_i n e b o y hd
    split at h
    · rename_i te l hh hte hl hhh
      split at h
      · rename_i h1 h2
        have h1 := Nat.le_of_ble_eq_true h1
        have h2 := Nat.le_of_ble_eq_true h2
        rw [T.reach_ret] at h; subst h
        refine ⟨by simp only [wf], fun p hp => ?_, fun ρ w => ?_⟩
        · simp only [SV.ids, SN.ids] at *; exact ⟨hp.1, hp.2, trivial, trivial⟩
        · have hu : ∀ w, (underlying t).run P w = .ok (.array n e) w := fun w => by rw [run_und (hT _ _ hti), hd]
          have hs : ∀ w, (sizeOf e).run P w = .ok te.sz w := fun w => run_size (hT _ _ hte)
          have b1 : (Instr.sliceBounds false n n (lo.map (SV.den ρ)) (hi.map (SV.den ρ)) none).run P w = .ok (l, hh, n) w := by
            have r1 := run_bound (P := P) (w := w) (code := .sliceAlen) hhh h1 ρ
            have r2 := run_bound (P := P) (w := w) (code := .sliceB) hl h2 ρ
            unfold Instr.sliceBounds
            simp only [Sem.run_bind, Sem.run_pure, Result.andThen_ok]
            cases hi with
            | none =>
              cases lo with
              | none => simp [boundS] at hhh hl ⊢; exact ⟨hl, hhh⟩
              | some z =>
                simp only [Option.map_some, Option.map_none] at r1 r2 ⊢
                simp [boundS] at hhh; subst hhh
                simp [r2]
            | some u =>
              cases lo with
              | none =>
                simp only [Option.map_some, Option.map_none] at r1 r2 ⊢
                simp [boundS] at hl; subst hl
                simp [r1]
              | some z =>
                simp only [Option.map_some] at r1 r2 ⊢
                simp [r1, r2]
          simp only [SV.den, Instr.sliceAt, Sem.run_bind, hu, Result.andThen_ok, Instr.sureAddr, Sem.run_pure, b1, hs, SN.den_lit, add_none]
          congr 4
          split
          · rename_i hnl
            subst hnl
            rw [Nat.beq_refl]
          · rename_i hnl
            rw [beq_no hnl]
            dsimp only
            congr 1; omega
      · exact (T.reach_fail h).elim
    · exact (T.reach_fail h).elim
  · exact (T.reach_fail h).elim

def extractS (x : SV) (i : Nat) : T SV :=
  match x with
  | .tup ps => match ps[i]? with
    | some v => .ret v
    | none => .fail "extract: no such part"
  | _ => .fail "extract: no tuple"

/-- 'len'. -/
def lenS (tab : Tab) (t : TypeId) (x : SV) : T SV :=
  match tab t with
  | none => .fail "len: type"
  | some ti => match ti.d, x with
    | .slice _, .slice _ _ _ len _ => match len with
      | .lit n => .ret (.lit .i64 n)
      | .opn n => .ret (.int .i64 n)
      | .var _ => .fail "len: a capacity"
    | .slice _, .raw (.slice _ n _) => .ret (.lit .i64 n)
    | .array n _, _ => .ret (.lit .i64 n)
    | .string, .raw (.string s) => .ret (.int .i64 s.size)
    | _, _ => .fail "len: of what"

theorem lenS_spec {P : Program} {tab : Tab} (hT : TabOk P tab) {t : TypeId} {x v : SV} (h : T.Reach (lenS tab t x) v) (ts : Array TypeId) (xs : Array Value) (ht : ts[0]? = some t) (T' : TypeId) :
    plainV v ∧ ∀ ρ w, xs[0]? = some (x.den ρ) → (Builtin.len_ ts T' xs).run P w = .ok (v.den ρ) w := by
  unfold lenS at h
  split at h
  · exact (T.reach_fail h).elim
  rename_i ti hti
  have hu : ∀ w, (underlying t).run P w = .ok ti.d w := fun w => run_und (hT _ _ hti)
  split at h
  · rename_i hd
    split at h
    · rw [T.reach_ret] at h; subst h
      exact ⟨trivial, fun ρ w hx => by simp [Builtin.len_, ht, hx, hu, hd, SV.den, SN.den, goInt]⟩
    · rw [T.reach_ret] at h; subst h
      exact ⟨trivial, fun ρ w hx => by simp [Builtin.len_, ht, hx, hu, hd, SV.den, SN.den, goInt]⟩
    · exact (T.reach_fail h).elim
  · rename_i hd
    rw [T.reach_ret] at h; subst h
    exact ⟨trivial, fun ρ w hx => by simp [Builtin.len_, ht, hx, hu, hd, SV.den, goInt]⟩
  · rename_i hd
    rw [T.reach_ret] at h; subst h
    exact ⟨trivial, fun ρ w hx => by simp [Builtin.len_, ht, hx, hu, hd, SV.den, goInt]⟩
  · rename_i hd
    rw [T.reach_ret] at h; subst h
    exact ⟨trivial, fun ρ w hx => by simp [Builtin.len_, ht, hx, hu, hd, SV.den, goInt]⟩
  · exact (T.reach_fail h).elim

/-- The address of a field. -/
def fieldAddrS (tab : Tab) (s : TypeId) (x : SV) (f : Nat) : T SV :=
  match tab s with
  | none => .fail "fieldAddr: type"
  | some ti => match ti.d, x with
    | .struct fs, .ptr b o y => match fs[f]? with
      | some fl => match tab fl.type with
        | some tf => match Nat.beq tf.sz 0 with
          | true => .fail "fieldAddr: a field of no size"
          | false => .ret (.ptr b (o + fl.offset) y)
        | none => .fail "fieldAddr: the field's type"
      | none => .fail "fieldAddr: no such field"
    | _, _ => .fail "fieldAddr: what"

theorem fieldAddrS_spec {P : Program} {tab : Tab} (hT : TabOk P tab) {s : TypeId} {x v : SV} {f : Nat} (h : T.Reach (fieldAddrS tab s x f) v) :
    wf v ∧ (∀ p, x.ids p → v.ids p) ∧ ∀ ρ w, (Instr.fieldAt s (x.den ρ) f).run P w = .ok (v.den ρ) w := by
  unfold fieldAddrS at h
  split at h
  · exact (T.reach_fail h).elim
  rename_i ti hti
  split at h
  · rename_i fs b o y hd
    split at h
    · rename_i fl hfl
      split at h
      · rename_i tf htf
        split at h
        · exact (T.reach_fail h).elim
        · rename_i hz
          have hz : tf.sz ≠ 0 := fun e => by rw [e] at hz; cases hz
          rw [T.reach_ret] at h; subst h
          refine ⟨by simp only [wf], fun p hp => by simpa only [SV.ids] using hp, fun ρ w => ?_⟩
          have hu : (underlying s).run P w = .ok (.struct fs) w := by rw [run_und (hT _ _ hti), hd]
          have hs : (sizeOf fl.type).run P w = .ok tf.sz w := run_size (hT _ _ htf)
          simp only [SV.den, Instr.fieldAt, Sem.run_bind, hu, Result.andThen_ok, hfl, Instr.sureAddr, Sem.run_pure, fieldPlace, hs, Sem.run_ite, hz, if_false, add_none]
          congr 4; omega
      · exact (T.reach_fail h).elim
    · exact (T.reach_fail h).elim
  · exact (T.reach_fail h).elim

/-- A field of a value. -/
def fieldS (tab : Tab) (s : TypeId) (x : SV) (f : Nat) : T SV :=
  match tab s with
  | none => .fail "field: type"
  | some ti => match ti.d, x with
    | .struct fs, .agg _ => match fs[f]? with
      | some fl => partS tab fl.type x fl.offset
      | none => .fail "field: no such field"
    | .struct fs, .ints _ _ _ => match fs[f]? with
      | some fl => partS tab fl.type x fl.offset
      | none => .fail "field: no such field"
    | _, _ => .fail "field: what"

theorem fieldS_spec {P : Program} {tab : Tab} (hT : TabOk P tab) {s : TypeId} {x v : SV} {f : Nat} (hx : wf x) (h : T.Reach (fieldS tab s x f) v) :
    wf v ∧ (∀ p, x.ids p → v.ids p) ∧ ∀ ρ w, (Instr.field s (x.den ρ) f).run P w = .ok (v.den ρ) w := by
  unfold fieldS at h
  split at h
  · exact (T.reach_fail h).elim
  rename_i ti hti
  split at h
  · rename_i fs ps hd
    split at h
    · rename_i fl hfl
      obtain ⟨h1, h2, h3⟩ := partS_spec hT hx h
      refine ⟨h1, h2, fun ρ w => ?_⟩
      have hu : (underlying s).run P w = .ok (.struct fs) w := by rw [run_und (hT _ _ hti), hd]
      have := h3 ρ w
      simp only [SV.den, Value.cells] at this
      simp [SV.den, Instr.field, hu, hfl, asAgg, this]
    · exact (T.reach_fail h).elim
  · rename_i fs k n l hd
    split at h
    · rename_i fl hfl
      obtain ⟨h1, h2, h3⟩ := partS_spec hT hx h
      refine ⟨h1, h2, fun ρ w => ?_⟩
      have hu : (underlying s).run P w = .ok (.struct fs) w := by rw [run_und (hT _ _ hti), hd]
      have := h3 ρ w
      simp only [SV.den, Value.cells] at this
      simp [SV.den, Instr.field, hu, hfl, asAgg, this]
    · exact (T.reach_fail h).elim
  · exact (T.reach_fail h).elim

/-- An element of an array that is a value: at a place that is written out, or of a list of numbers. -/
def indexVS (tab : Tab) (t : TypeId) (x i : SV) : T SV :=
  match tab t with
  | none => .fail "index: type"
  | some ti => match ti.d with
    | .array n e => match x with
      | .ints k m l => match i with
        | .lit _ j => match decide (0 ≤ j), Nat.blt j.toNat n with
          | true, true => match tab e with
            | some te => partS tab e x (j.toNat * te.sz)
            | none => .fail "index: element"
          | _, _ => .fail "index: out of range"
        | .int _ j => match tab e with
          | some te => match te.d with
            | .int _ => match Nat.beq te.sz 1, Nat.beq m n with
              | true, true => .need (0 ≤ j ∧ j < n) (.ret (.int k (l.getD j.toNat 0)))
              | _, _ => .fail "index: size"
            | _ => .fail "index: an open place"
          | none => .fail "index: element"
        | _ => .fail "index: what place"
      | .agg _ => match i with
        | .lit _ j => match decide (0 ≤ j), Nat.blt j.toNat n with
          | true, true => match tab e with
            | some te => partS tab e x (j.toNat * te.sz)
            | none => .fail "index: element"
          | _, _ => .fail "index: out of range"
        | _ => .fail "index: what place"
      | _ => .fail "index: of what"
    | _ => .fail "index: no array"

theorem run_indexV {P : Program} {w : World} {t e : TypeId} {n : Nat} {ti te : TyI} {cs : Array Value} {i : Value} {k : IntKind} {j : Int} (ht : TyOk P t ti) (he : TyOk P e te) (hd : ti.d = .array n e) (hi : i = .int k j) (h0 : 0 ≤ j) (h1 : j < n) :
    (Instr.index t (.agg cs) i).run P w = (part e cs (j.toNat * te.sz)).run P w := by
  subst hi
  have hu : ∀ w, (underlying t).run P w = .ok (.array n e) w := fun w => by rw [run_und ht, hd]
  have hs : ∀ w, (sizeOf e).run P w = .ok te.sz w := fun w => run_size he
  simp [Instr.index, asIntOf, hu, hs, h0, h1]

theorem indexVS_spec {P : Program} {tab : Tab} (hT : TabOk P tab) {t : TypeId} {x i v : SV} (hx : wf x) (h : T.Reach (indexVS tab t x i) v) :
    wf v ∧ (∀ p, x.ids p → v.ids p) ∧ ∀ ρ w, (Instr.index t (x.den ρ) (i.den ρ)).run P w = .ok (v.den ρ) w := by
  unfold indexVS at h
  split at h
  · exact (T.reach_fail h).elim
  rename_i ti hti
  split at h
  · rename_i n e hd
    split at h
    · rename_i k m l
      split at h
      · rename_i k' j
        split at h
        · rename_i h0 h1
          obtain ⟨h0, h1⟩ := lit_range h0 h1
          split at h
          · rename_i te hte
            obtain ⟨g1, g2, g3⟩ := partS_spec hT hx h
            refine ⟨g1, g2, fun ρ w => ?_⟩
            have := g3 ρ w
            simp only [SV.den, Value.cells] at this ⊢
            rw [run_indexV (hT _ _ hti) (hT _ _ hte) hd rfl h0 h1, this]
          · exact (T.reach_fail h).elim
        · exact (T.reach_fail h).elim
      · rename_i k' j
        split at h
        · rename_i te hte
          split at h
          · rename_i ke hke
            split at h
            · rename_i hs1 hmn
              have hs1 := Nat.eq_of_beq_eq_true hs1
              have hmn := Nat.eq_of_beq_eq_true hmn
              rw [T.reach_need, T.reach_ret] at h
              obtain ⟨⟨h0, h1⟩, rfl⟩ := h
              refine ⟨by simp only [wf], fun p _ => by simp [SV.ids], fun ρ w => ?_⟩
              simp only [SV.den]
              rw [run_indexV (hT _ _ hti) (hT _ _ hte) hd rfl h0 h1]
              have hagg : (isAgg e).run P w = .ok false w := by rw [run_isAgg (hT _ _ hte), hke]; rfl
              simp only [wf] at hx
              have hlt : j.toNat < l.length := by omega
              simp only [part, Sem.run_bind, hagg, Result.andThen_ok, Bool.false_eq_true, if_false, hs1, Nat.mul_one]
              have : (List.map (Value.int k) l).toArray[j.toNat]? = some (.int k (l.getD j.toNat 0)) := by simpa using cells_ints_getD (k := k) hlt
              rw [this]; rfl
            · exact (T.reach_fail h).elim
          · exact (T.reach_fail h).elim
        · exact (T.reach_fail h).elim
      · exact (T.reach_fail h).elim
    · rename_i ps
      split at h
      · rename_i k' j
        split at h
        · rename_i h0 h1
          obtain ⟨h0, h1⟩ := lit_range h0 h1
          split at h
          · rename_i te hte
            obtain ⟨g1, g2, g3⟩ := partS_spec hT hx h
            refine ⟨g1, g2, fun ρ w => ?_⟩
            have := g3 ρ w
            simp only [SV.den, Value.cells] at this ⊢
            rw [run_indexV (hT _ _ hti) (hT _ _ hte) hd rfl h0 h1, this]
          · exact (T.reach_fail h).elim
        · exact (T.reach_fail h).elim
      · exact (T.reach_fail h).elim
    · exact (T.reach_fail h).elim
  · exact (T.reach_fail h).elim
end Go.Sx

/- The symbolic layer, part H: '==' on arrays and structs of numbers. -/
namespace Go.Sx

def boolOf : SV → Option Bool
  | .tt => some true
  | .ff => some false
  | .bool b => some b
  | _ => none

theorem boolOf_den {v : SV} {b : Bool} (h : boolOf v = some b) (ρ : Env) : v.den ρ = .bool b := by
  cases v <;> simp [boolOf] at h <;> subst h <;> simp [SV.den]

/-- A number, or rows of numbers, to the bottom. -/
def deepB (tab : Tab) : Nat → TypeId → Bool
  | 0, _ => false
  | d + 1, t => match tab t with
    | none => false
    | some ti => match ti.d with
      | .int _ => Nat.beq ti.sz 1
      | .array n e => match tab e with
        | none => false
        | some te => deepB tab d e && Nat.beq ti.sz (n * te.sz)
      | _ => false

def rowV (agg : Bool) (k : IntKind) (l : List Int) : Value :=
  match agg with
  | true => .agg (l.map (Value.int k)).toArray
  | false => .int k (l.getD 0 0)

theorem run_forIn_all {P : Program} {w : World} (g : Nat → Option Bool × Unit → Sem (ForInStep (Option Bool × Unit))) (E : Nat → Bool) : ∀ (l : List Nat),
    (∀ i ∈ l, (g i (none, ())).run P w = .ok (if E i then ForInStep.yield (none, ()) else ForInStep.done (some false, ())) w) →
    (forIn l ((none : Option Bool), ()) g).run P w = .ok (if l.all E then (none, ()) else (some false, ())) w
  | [], _ => by simp
  | i :: l, h => by
    have h1 := h i (by simp)
    have ih := run_forIn_all g E l (fun j hj => h j (by simp [hj]))
    rw [List.forIn_cons]
    simp only [Sem.run_bind, h1, Result.andThen_ok]
    cases hE : E i with
    | true => simp [ih, hE]
    | false => simp [hE]

theorem rows_eq (s : Nat) : ∀ (n : Nat) (l l' : List Int), l.length = n * s → l'.length = n * s →
    ((List.range' 0 n).all fun i => sub l (i * s) s == sub l' (i * s) s) = (l == l')
  | 0, l, l', h, h' => by
    have : l = [] := by cases l <;> simp_all
    have : l' = [] := by cases l' <;> simp_all
    subst_vars; rfl
  | n + 1, l, l', h, h' => by
    have ih := rows_eq s n (l.drop s) (l'.drop s) (by simp [h, Nat.add_mul]) (by simp [h', Nat.add_mul])
    rw [List.range'_succ, List.all_cons]
    have e : (List.range' 1 n).all (fun i => sub l (i * s) s == sub l' (i * s) s) = (List.range' 0 n).all (fun i => sub (l.drop s) (i * s) s == sub (l'.drop s) (i * s) s) := by
      have e0 : List.range' 1 n = (List.range' 0 n).map (fun x => 1 + x) := by rw [List.map_add_range']
      rw [e0, List.all_map]
      congr 1
      funext i
      simp only [Function.comp, sub, List.drop_drop]
      rw [show (1 + i) * s = s + i * s from by rw [Nat.add_mul, Nat.one_mul]]
    rw [show (0 : Nat) + 1 = 1 from rfl, e, ih]
    simp only [sub, Nat.zero_mul, List.drop_zero]
    rw [Bool.eq_iff_iff]
    simp only [Bool.and_eq_true, beq_iff_eq]
    constructor
    · rintro ⟨a, b⟩
      rw [← List.take_append_drop s l, ← List.take_append_drop s l', a, b]
    · rintro rfl; exact ⟨rfl, rfl⟩

theorem run_part_row {P : Program} {w : World} {e : TypeId} {te : TyI} (he : TyOk P e te) {k : IntKind} {l : List Int} {o : Nat} (hb : TypeDesc.isAggB te.d = false → te.sz = 1) (h : o + te.sz ≤ l.length) :
    (part e (l.map (Value.int k)).toArray o).run P w = .ok (rowV (TypeDesc.isAggB te.d) k (sub l o te.sz)) w := by
  have hu : (isAgg e).run P w = .ok (TypeDesc.isAggB te.d) w := run_isAgg he
  have hs : (sizeOf e).run P w = .ok te.sz w := run_size he
  simp only [part, Sem.run_bind, hu, Result.andThen_ok, Sem.run_ite]
  cases hagg : TypeDesc.isAggB te.d with
  | true =>
    simp only [if_true, hs, Result.andThen_ok, Sem.run_pure, rowV]
    congr 2
    apply Array.ext'
    simp [sub, List.map_take, List.map_drop]
  | false =>
    have h1 := hb hagg
    simp only [Bool.false_eq_true, if_false, rowV]
    have : (List.map (Value.int k) l).toArray[o]? = some (.int k ((sub l o te.sz).getD 0 0)) := by
      rw [h1]
      have := cells_ints_getD (k := k) (l := l) (i := o) (by omega)
      simp only [List.getElem?_toArray, this]
      simp [sub, List.getD, show o < l.length by omega]
    rw [this]; rfl

theorem len1 {l : List Int} (h : l.length = 1) : ∃ a, l = [a] := by
  match l, h with
  | [a], _ => exact ⟨a, rfl⟩

theorem deep_eq {P : Program} {tab : Tab} (hT : TabOk P tab) {w : World} {k : IntKind} : ∀ (fuel : Nat) (D : Nat) (t : TypeId) (ti : TyI) (l l' : List Int), fuel ≤ D → tab t = some ti → deepB tab fuel t = true →
    l.length = ti.sz → l'.length = ti.sz → (TypeDesc.isAggB ti.d = false → ti.sz = 1) ∧ (Op.equalIn D t (rowV (TypeDesc.isAggB ti.d) k l) (rowV (TypeDesc.isAggB ti.d) k l')).run P w = .ok (l == l') w
  | 0, _, _, _, _, _, _, _, hd, _, _ => by simp [deepB] at hd
  | fuel + 1, 0, _, _, _, _, hD, _, _, _, _ => by omega
  | fuel + 1, D + 1, t, ti, l, l', hD, hti, hd, hl, hl' => by
    simp only [deepB, hti] at hd
    have ok := hT _ _ hti
    split at hd
    · rename_i k0 hk0
      have h1 := Nat.eq_of_beq_eq_true hd
      rw [h1] at hl hl'
      refine ⟨fun _ => h1, ?_⟩
      have hu : P.underlying t = some (.int k0) := by rw [ok.und, hk0]
      rw [hk0]
      simp only [TypeDesc.isAggB, rowV]
      obtain ⟨a, rfl⟩ := len1 hl
      obtain ⟨b, rfl⟩ := len1 hl'
      have := run_equalIn_int (P := P) w D t k k0 a b hu
      simp only [List.getD_cons_zero]
      rw [this]
      simp
    · rename_i n e hne
      split at hd
      · cases hd
      rename_i te hte
      simp only [Bool.and_eq_true] at hd
      obtain ⟨hd1, hd2⟩ := hd
      have hsz := Nat.eq_of_beq_eq_true hd2
      refine ⟨fun h => by (rw [hne] at h; cases h), ?_⟩
      have hu : ∀ w, (underlying t).run P w = .ok (.array n e) w := fun w => by rw [run_und ok, hne]
      have hs : ∀ w, (Go.sizeOf e).run P w = .ok te.sz w := fun w => run_size (hT _ _ hte)
      rw [hne]
      simp only [TypeDesc.isAggB, rowV, Op.equalIn, Sem.run_bind, hu, Result.andThen_ok, hs]
      rw [Std.Legacy.Range.forIn_eq_forIn_range']
      have hsize : (Std.Legacy.Range.size [:n]) = n := by simp [Std.Legacy.Range.size]
      rw [hsize]
      rw [run_forIn_all (P := P) (w := w) _ (fun i => sub l (i * te.sz) te.sz == sub l' (i * te.sz) te.sz) (List.range' 0 n) (fun i hi => ?_)]
      · rw [rows_eq te.sz n l l' (by omega) (by omega)]
        cases l == l' <;> simp
      · simp at hi
        have hle : i * te.sz + te.sz ≤ n * te.sz := by
          rw [← Nat.succ_mul]; exact Nat.mul_le_mul_right _ hi
        have ih := deep_eq hT (w := w) (k := k) fuel D e te (sub l (i * te.sz) te.sz) (sub l' (i * te.sz) te.sz) (by omega) hte hd1 (by simp [sub]; omega) (by simp [sub]; omega)
        simp only [Sem.run_bind, run_part_row (hT _ _ hte) ih.1 (show i * te.sz + te.sz ≤ l.length by omega), run_part_row (hT _ _ hte) ih.1 (show i * te.sz + te.sz ≤ l'.length by omega), Result.andThen_ok, ih.2]
        cases sub l (i * te.sz) te.sz == sub l' (i * te.sz) te.sz <;> simp
    · cases hd

def eqF (tab : Tab) (rec : TypeId → SV → SV → T Bool) (x y : SV) : List Field → T Bool
  | [] => .ret true
  | f :: fs => (partS tab f.type x f.offset).bind fun a => (partS tab f.type y f.offset).bind fun b => (rec f.type a b).bind fun r => (eqF tab rec x y fs).bind fun r' => .ret (r && r')

def isAggV : SV → Bool
  | .agg _ => true
  | .ints _ _ _ => true
  | _ => false

def eqT (tab : Tab) : Nat → TypeId → SV → SV → T Bool
  | 0, _, _, _ => .fail "==: depth"
  | d + 1, t, x, y => match tab t with
    | none => .fail "==: type"
    | some ti => match ti.d with
      | .int _ => match numOf x, numOf y with
        | some (_, k, a), some (_, k', b) => match decide (k = k') with
          | true => .ret (a == b)
          | false => .fail "==: kinds"
        | _, _ => .fail "==: numbers"
      | .bool => match boolOf x, boolOf y with
        | some a, some b => .ret (a == b)
        | _, _ => .fail "==: bools"
      | .array _ _ => match x, y with
        | .ints k m l, .ints k' m' l' => match decide (k = k'), deepB tab (d + 1) t, Nat.beq m ti.sz, Nat.beq m' ti.sz with
          | true, true, true, true => .ret (l == l')
          | _, _, _, _ => .fail "==: arrays"
        | _, _ => .fail "==: arrays of what"
      | .struct fs => match ti.pl, isAggV x, isAggV y with
        | true, true, true => eqF tab (eqT tab d) x y fs.toList
        | _, _, _ => .fail "==: structs"
      | _ => .fail "==: of what"

theorem isAggV_den {v : SV} (h : isAggV v = true) (ρ : Env) : v.den ρ = .agg (v.den ρ).cells := by
  cases v <;> simp [isAggV] at h <;> simp [SV.den, Value.cells]

theorem eqF_spec {P : Program} {tab : Tab} (hT : TabOk P tab) {rec : TypeId → SV → SV → T Bool} {D : Nat} {ρ : Env} {w : World}
    (hrec : ∀ t x y r, wf x → wf y → T.Reach (rec t x y) r → (Op.equalIn D t (x.den ρ) (y.den ρ)).run P w = .ok r w) {x y : SV} (hx : wf x) (hy : wf y) :
    ∀ (fs : List Field) (r : Bool), (∀ f ∈ fs, f.name ≠ "_") → T.Reach (eqF tab rec x y fs) r → (Op.eqFields D (x.den ρ).cells (y.den ρ).cells fs).run P w = .ok r w
  | [], r, _, h => by simp only [eqF, T.reach_ret] at h; subst h; simp [Op.eqFields]
  | f :: fs, r, hn, h => by
    simp only [eqF, T.reach_bind, T.reach_ret] at h
    obtain ⟨a, ha, b, hb, r1, h1, r2, h2, rfl⟩ := h
    obtain ⟨wa, -, ra⟩ := partS_spec hT hx ha
    obtain ⟨wb, -, rb⟩ := partS_spec hT hy hb
    have e1 := hrec _ _ _ _ wa wb h1
    have e2 := eqF_spec hT hrec hx hy fs r2 (fun g hg => hn g (by simp [hg])) h2
    simp only [Op.eqFields, hn f (by simp), ne_eq, not_false_eq_true, if_true, Sem.run_bind, ra ρ w, rb ρ w, Result.andThen_ok, e1]
    cases r1 <;> simp [e2]

theorem eqT_spec {P : Program} {tab : Tab} (hT : TabOk P tab) {ρ : Env} {w : World} : ∀ (fuel D : Nat) (t : TypeId) (x y : SV) (r : Bool), fuel ≤ D → wf x → wf y → T.Reach (eqT tab fuel t x y) r →
    (Op.equalIn D t (x.den ρ) (y.den ρ)).run P w = .ok r w
  | 0, _, _, _, _, _, _, _, _, h => (T.reach_fail h).elim
  | fuel + 1, 0, _, _, _, _, hD, _, _, _ => by omega
  | fuel + 1, D + 1, t, x, y, r, hD, hx, hy, h => by
    simp only [eqT] at h
    split at h
    · exact (T.reach_fail h).elim
    rename_i ti hti
    have ok := hT _ _ hti
    split at h
    · rename_i k0 hk0
      have hu : P.underlying t = some (.int k0) := by rw [ok.und, hk0]
      split at h
      · rename_i b1 k a b2 k' b hx' hy'
        split at h
        · rename_i hk
          have hk : k = k' := of_decide_eq_true hk
          subst hk
          rw [T.reach_ret] at h; subst h
          rw [numOf_den hx', numOf_den hy', run_equalIn_int w D t k k0 a b hu]
        · exact (T.reach_fail h).elim
      · exact (T.reach_fail h).elim
    · rename_i hk0
      have hu : P.underlying t = some .bool := by rw [ok.und, hk0]
      split at h
      · rename_i a b hx' hy'
        rw [T.reach_ret] at h; subst h
        rw [boolOf_den hx', boolOf_den hy', run_equalIn_bool' w D t a b hu]
      · exact (T.reach_fail h).elim
    · rename_i n e hne
      split at h
      · rename_i k m l k' m' l'
        split at h
        · rename_i hk hd hm hm'
          have hk : k = k' := of_decide_eq_true hk
          subst hk
          have hm := Nat.eq_of_beq_eq_true hm
          have hm' := Nat.eq_of_beq_eq_true hm'
          simp only [wf] at hx hy
          rw [T.reach_ret] at h; subst h
          have := (deep_eq hT (w := w) (k := k) (fuel + 1) (D + 1) t ti l l' hD hti hd (by omega) (by omega)).2
          rw [hne] at this
          exact this
        · exact (T.reach_fail h).elim
      · exact (T.reach_fail h).elim
    · rename_i fs hfs
      split at h
      · rename_i hpl hax hay
        obtain ⟨p1, p2, p3⟩ := ok.plain hpl
        have hu : P.underlying t = some (.struct fs) := by rw [ok.und, hfs]
        have hf : P.fieldsOf t = fs := by simp [Program.fieldsOf, hu]
        rw [isAggV_den hax, isAggV_den hay, run_equalIn_struct w D t _ _ (by rw [hf]; exact hu) p1, hf]
        exact eqF_spec hT (fun t x y r a b c => eqT_spec hT fuel D t x y r (by omega) a b c) hx hy fs.toList r (p3 fs hfs) h
      · exact (T.reach_fail h).elim
    · exact (T.reach_fail h).elim
end Go.Sx

/- The symbolic layer, part I: one operation, whatever it is, and what it does to a frame and a world. -/
namespace Go.Sx
open Go.RowKit (Below)

/-- What the executor is given. -/
structure Cx where
  tab : Tab
  ext : FuncId → Option (List SV → T SV)
  fn : FuncId → Option (List SV → T SV)
  inl : FuncId → Option (List SV → St → T (SV × St))

structure SpecOk (spec : List SV → T SV) : Prop where
  wf : ∀ args v, (∀ x ∈ args, wf x) → T.Reach (spec args) v → wf v
  ids : ∀ args v, T.Reach (spec args) v → ∀ p : Nat → Prop, (∀ x ∈ args, x.ids p) → v.ids p

/-- Functions that are walked into where they are called: what a call makes of the state. -/
def InlOk (P : Program) (Γ : Gam) (cx : Cx) : Prop := ∀ g h, cx.inl g = some h → (∀ args w, (callFunc g args).run P w = .ok (.enter g args) w) ∧
  ∀ args S v S', (∀ x ∈ args, wf x) → idsL S.has args → T.Reach (h args S) (v, S') → ∀ ρ a w, Rel Γ ρ S a w →
    Calls P g (denL ρ args).toArray w (fun e w' => ∃ ρ', e = .returned (v.den ρ') ∧ Rel Γ ρ' S' a w' ∧ wf v ∧ v.ids S'.has)

structure CxOk (P : Program) (G : World → Prop) (cx : Cx) : Prop where
  tab : TabOk P cx.tab
  ext : ∀ g spec, cx.ext g = some spec → SpecOk spec ∧ ∀ args v, (∀ x ∈ args, wf x) → T.Reach (spec args) v → ∀ ρ w, (callFunc g (denL ρ args).toArray).run P w = .ok (.value (v.den ρ)) w
  fn : ∀ g spec, cx.fn g = some spec → SpecOk spec ∧ (∀ args w, (callFunc g args).run P w = .ok (.enter g args) w) ∧
    ∀ args v, (∀ x ∈ args, wf x) → T.Reach (spec args) v → ∀ ρ w, G w → Calls P g (denL ρ args).toArray w (fun e w' => e = .returned (v.den ρ) ∧ Below w.heap.size w w')
  keep : ∀ w w', Below w.heap.size w w' → G w → G w'
  mixed : P.follows .mixedOrders = true
  inl : ∀ Γ : Gam, Γ.G = G → Γ.G Γ.w0 → GlobOk Γ → InlOk P Γ cx

def pureS (cx : Cx) (o : Oper) (ev : Operand → SV) : Option (T SV) :=
  match o.op with
  | .move x => some (.ret (ev x))
  | .assign x => some (.ret (ev x))
  | .pick c a b => match ev c with
    | .tt => some (.ret (ev a))
    | .ff => some (.ret (ev b))
    | .bool t => some (pickB t (ev a) (ev b))
    | _ => none
  | .build t parts => some (buildS cx.tab t (parts.toList.map fun x => (x.1, ev x.2)))
  | .binOp op t x y _ => match numOf (ev x), numOf (ev y) with
    | some (lx, k, a), some (ly, k', b) => some (binN op lx k a ly k' b)
    | _, _ => match isAggV (ev x) && isAggV (ev y), cx.tab t with
      | true, some ti => match ti.pl with
        | true => match op with
          | .eql => some ((eqT cx.tab 8 t (ev x) (ev y)).bind fun r => .ret (.bool r))
          | .neq => some ((eqT cx.tab 8 t (ev x) (ev y)).bind fun r => .ret (.bool (!r)))
          | _ => none
        | false => none
      | _, _ => match boolOf (ev x), boolOf (ev y) with
        | some a, some b => match (match cx.tab t with
            | some ti => match ti.d with
              | .bool => true
              | _ => false
            | none => false) with
          | true => match op with
            | .eql => some (.ret (.bool (a == b)))
            | .neq => some (.ret (.bool (!(a == b))))
            | _ => none
          | false => none
        | _, _ => none
  | .unOp op _ x => some (unS op (ev x))
  | .convert src dst x => some (convertS cx.tab src dst (ev x))
  | .fieldAddr s x f => some (fieldAddrS cx.tab s (ev x) f)
  | .field s x f => some (fieldS cx.tab s (ev x) f)
  | .indexAddr t x i => some (indexS cx.tab t (ev x) (ev i))
  | .index t x i => some (indexVS cx.tab t (ev x) (ev i))
  | .slice t x lo hi mx => match mx with
    | none => some (sliceS cx.tab t (ev x) (lo.map ev) (hi.map ev))
    | some _ => none
  | .extract x i => some (extractS (ev x) i)
  | .makeFunc fn first caps => match fn, first.toList with
    | .func f, [] => some (.ret (.fn f (caps.toList.map ev)))
    | _, _ => none
  | .call c => match c.callee with
    | .builtin .len => match c.argTypes[0]?, c.args[0]? with
      | some t, some x => some (lenS cx.tab t (ev x))
      | _, _ => none
    | .value f => match ev f with
      | .fn g caps => match cx.ext g with
        | some spec => some (spec (c.args.toList.map ev ++ caps))
        | none => none
      | _ => none
    | _ => none
  | _ => none


theorem extractS_spec {P : Program} {x v : SV} {i : Nat} (hx : wf x) (h : T.Reach (extractS x i) v) : wf v ∧ (∀ p, x.ids p → v.ids p) ∧ ∀ ρ w, (Instr.extract (x.den ρ) i).run P w = .ok (v.den ρ) w := by
  unfold extractS at h
  split at h
  · rename_i ps
    split at h
    · rename_i u hu
      rw [T.reach_ret] at h; subst h
      have hm : v ∈ ps := List.mem_of_getElem? hu
      simp only [wf] at hx
      refine ⟨wfL_iff.1 hx v hm, fun p hp => ?_, fun ρ w => ?_⟩
      · simp only [SV.ids] at hp; exact idsL_iff.1 hp v hm
      · simp only [SV.den, Instr.extract, denL_eq]
        have : (List.map (SV.den ρ) ps).toArray[i]? = some (v.den ρ) := by simp [hu]
        simp [this]
    · exact (T.reach_fail h).elim
  · exact (T.reach_fail h).elim

theorem run_eqGuard_agg {P : Program} {w : World} {op : BinOp} {t : TypeId} {x y : Operand} {a b : Value} (ha : a ≠ .nilIface) (hg : ∀ cs, a = .agg cs → P.eqGuardType P.depth t = false) :
    (eqGuard op t x y a b).run P w = .ok () w := by
  unfold eqGuard
  split
  · simp only [Bool.not_true, Bool.false_eq_true, if_false]
    cases a
    case nilIface => exact absurd rfl ha
    case agg cs =>
      cases b <;> try rfl
      simp [hg cs rfl]
    all_goals (cases b <;> rfl)
  · simp only [Bool.not_true, Bool.false_eq_true, if_false]
    cases a
    case nilIface => exact absurd rfl ha
    case agg cs =>
      cases b <;> try rfl
      simp [hg cs rfl]
    all_goals (cases b <;> rfl)
  · simp

theorem den_not_nilIface {x : SV} (h : numOf x ≠ none ∨ isAggV x = true ∨ boolOf x ≠ none) (ρ : Env) : x.den ρ ≠ .nilIface := by
  intro he
  cases x <;> simp [numOf, isAggV, boolOf] at h <;> simp [SV.den] at he

theorem map_build (ev : Operand → SV) (ρ : Env) (parts : Array (Nat × Operand)) :
    (parts.map fun (x : Nat × Operand) => (x.1, (ev x.2).den ρ)) = ((parts.toList.map fun x => (x.1, ev x.2)).map fun x => (x.1, x.2.den ρ)).toArray := by
  apply Array.ext'; simp

theorem pureS_spec {P : Program} {G : World → Prop} {cx : Cx} (hc : CxOk P G cx) {o : Oper} {ev : Operand → SV} {t : T SV} {v : SV} (hw : ∀ x, wf (ev x)) (ht : pureS cx o ev = some t) (h : T.Reach t v) :
    wf v ∧ (∀ p, (∀ x ∈ o.op.operands, (ev x).ids p) → v.ids p) ∧ ∀ ρ w, (execOp (fun x => (ev x).den ρ) o).run P w = .ok (.value (v.den ρ)) w := by
  obtain ⟨dst, op, type, pos, after, guard⟩ := o
  unfold pureS at ht
  simp only at ht
  split at ht
  · -- move
    simp at ht; subst ht; rw [T.reach_ret] at h; subst h
    exact ⟨hw _, fun p hp => hp _ (by simp [Op.operands]), fun ρ w => rfl⟩
  · simp at ht; subst ht; rw [T.reach_ret] at h; subst h
    exact ⟨hw _, fun p hp => hp _ (by simp [Op.operands]), fun ρ w => rfl⟩
  · -- pick
    rename_i c a b
    split at ht
    · rename_i hcv
      simp at ht; subst ht; rw [T.reach_ret] at h; subst h
      exact ⟨hw _, fun p hp => hp _ (by simp [Op.operands]), fun ρ w => by simp [execOp, hcv, SV.den, asBool]⟩
    · rename_i hcv
      simp at ht; subst ht; rw [T.reach_ret] at h; subst h
      exact ⟨hw _, fun p hp => hp _ (by simp [Op.operands]), fun ρ w => by simp [execOp, hcv, SV.den, asBool]⟩
    · rename_i cb hcv
      simp at ht; subst ht
      obtain ⟨h1, h2, h3⟩ := pickB_spec h
      refine ⟨h2 (hw _) (hw _), fun p hp => h3 p (hp _ (by simp [Op.operands])) (hp _ (by simp [Op.operands])), fun ρ w => ?_⟩
      simp [execOp, hcv, SV.den, asBool, h1 ρ]
    · cases ht
  · -- build
    rename_i bt parts
    simp at ht; subst ht
    obtain ⟨h1, h2, h3⟩ := buildS_spec hc.tab (fun x hx => by simp at hx; obtain ⟨a, b, -, rfl⟩ := hx; exact hw _) h
    refine ⟨h1, fun p hp => h2 p (fun x hx => ?_), fun ρ w => ?_⟩
    · simp at hx
      obtain ⟨a, b, hm, rfl⟩ := hx
      exact hp _ (by simp [Op.operands]; exact ⟨a, hm⟩)
    · have := h3 ρ w
      simp only [execOp, map_build, Sem.run_bind, this, Result.andThen_ok, Sem.run_pure]
  · -- binOp
    rename_i bop bt x y yt
    split at ht
    · rename_i lx k a ly k' b hx hy
      simp at ht; subst ht
      refine ⟨(binN_plain h).wf, fun p _ => (binN_plain h).ids p, fun ρ w => ?_⟩
      have e1 : (eqGuard bop bt x y ((ev x).den ρ) ((ev y).den ρ)).run P w = .ok () w :=
        run_eqGuard_agg (den_not_nilIface (.inl (by rw [hx]; simp)) ρ) (fun cs he => by rw [numOf_den hx] at he; cases he)
      have e2 := run_binN (P := P) (w := w) (t := bt) h ρ
      rw [← numOf_den hx ρ, ← numOf_den hy ρ] at e2
      simp only [execOp, Sem.run_bind, e1, Result.andThen_ok, e2, Sem.run_pure]
    · rename_i hnn
      split at ht
      · rename_i ti hagg hti
        simp only [Bool.and_eq_true] at hagg
        split at ht
        · rename_i hpl
          obtain ⟨-, p2, -⟩ := (hc.tab _ _ hti).plain hpl
          have key : ∀ r, T.Reach (eqT cx.tab 8 bt (ev x) (ev y)) r → ∀ ρ w, (Op.equal bt ((ev x).den ρ) ((ev y).den ρ)).run P w = .ok r w := fun r hr ρ w =>
            eqT_spec hc.tab 8 Op.maxDepth bt _ _ r (by simp [Op.maxDepth]) (hw _) (hw _) hr
          have e1 : ∀ ρ w, (eqGuard bop bt x y ((ev x).den ρ) ((ev y).den ρ)).run P w = .ok () w := fun ρ w =>
            run_eqGuard_agg (den_not_nilIface (.inr (.inl hagg.1)) ρ) (fun _ _ => p2)
          split at ht
          · simp at ht; subst ht
            rw [T.reach_bind] at h
            obtain ⟨r, hr, h⟩ := h
            rw [T.reach_ret] at h; subst h
            refine ⟨by simp only [wf], fun p _ => by simp [SV.ids], fun ρ w => ?_⟩
            have hk := key r hr ρ w
            simp only [execOp, Sem.run_bind, e1, Result.andThen_ok, Sem.run_pure]
            rw [isAggV_den hagg.1, isAggV_den hagg.2] at hk ⊢
            simp [binOp, hk, SV.den]
          · simp at ht; subst ht
            rw [T.reach_bind] at h
            obtain ⟨r, hr, h⟩ := h
            rw [T.reach_ret] at h; subst h
            refine ⟨by simp only [wf], fun p _ => by simp [SV.ids], fun ρ w => ?_⟩
            have hk := key r hr ρ w
            simp only [execOp, Sem.run_bind, e1, Result.andThen_ok, Sem.run_pure]
            rw [isAggV_den hagg.1, isAggV_den hagg.2] at hk ⊢
            simp [binOp, hk, SV.den]
          · cases ht
        · cases ht
      · split at ht
        · rename_i a b ha hb
          split at ht
          · rename_i hbool
            have hu : P.underlying bt = some .bool := by
              split at hbool
              · rename_i ti hti
                have ok := hc.tab _ _ hti
                split at hbool
                · rename_i hd; rw [ok.und, hd]
                · cases hbool
              · cases hbool
            have key : ∀ w, (Op.equal bt (.bool a) (.bool b)).run P w = .ok (a == b) w := fun w => run_equalIn_bool' w 9999 bt a b hu
            have e1 : ∀ ρ w, (eqGuard bop bt x y ((ev x).den ρ) ((ev y).den ρ)).run P w = .ok () w := fun ρ w =>
              run_eqGuard_agg (den_not_nilIface (.inr (.inr (by rw [ha]; simp))) ρ) (fun cs he => by rw [boolOf_den ha] at he; cases he)
            split at ht
            · simp at ht; subst ht
              rw [T.reach_ret] at h; subst h
              refine ⟨by simp only [wf], fun p _ => by simp [SV.ids], fun ρ w => ?_⟩
              simp only [execOp, Sem.run_bind, e1, Result.andThen_ok, Sem.run_pure]
              rw [boolOf_den ha, boolOf_den hb]
              simp [binOp, key, SV.den]
            · simp at ht; subst ht
              rw [T.reach_ret] at h; subst h
              refine ⟨by simp only [wf], fun p _ => by simp [SV.ids], fun ρ w => ?_⟩
              simp only [execOp, Sem.run_bind, e1, Result.andThen_ok, Sem.run_pure]
              rw [boolOf_den ha, boolOf_den hb]
              simp [binOp, key, SV.den]
            · cases ht
          · cases ht
        · cases ht
  · -- unOp
    simp at ht; subst ht
    obtain ⟨h1, h2⟩ := unS_spec (P := P) h
    exact ⟨h1.wf, fun p _ => h1.ids p, fun ρ w => by simp [execOp, h2 ρ w]⟩
  · simp at ht; subst ht
    obtain ⟨h1, h2⟩ := convertS_spec hc.tab h
    exact ⟨h1.wf, fun p _ => h1.ids p, fun ρ w => by simp [execOp, h2 ρ w]⟩
  · simp at ht; subst ht
    obtain ⟨h1, h2, h3⟩ := fieldAddrS_spec hc.tab h
    exact ⟨h1, fun p hp => h2 p (hp _ (by simp [Op.operands])), fun ρ w => by simp [execOp, h3 ρ w]⟩
  · simp at ht; subst ht
    obtain ⟨h1, h2, h3⟩ := fieldS_spec hc.tab (hw _) h
    exact ⟨h1, fun p hp => h2 p (hp _ (by simp [Op.operands])), fun ρ w => by simp [execOp, h3 ρ w]⟩
  · simp at ht; subst ht
    obtain ⟨h1, h2, h3⟩ := indexS_spec hc.tab h
    exact ⟨h1, fun p hp => h2 p (hp _ (by simp [Op.operands])), fun ρ w => by simp [execOp, h3 ρ w]⟩
  · simp at ht; subst ht
    obtain ⟨h1, h2, h3⟩ := indexVS_spec hc.tab (hw _) h
    exact ⟨h1, fun p hp => h2 p (hp _ (by simp [Op.operands])), fun ρ w => by simp [execOp, h3 ρ w]⟩
  · -- slice
    rename_i st x lo hi mx
    cases mx with
    | some _ => cases ht
    | none =>
    simp at ht; subst ht
    obtain ⟨h1, h2, h3⟩ := sliceS_spec hc.tab h
    refine ⟨h1, fun p hp => h2 p (hp _ (by simp [Op.operands])), fun ρ w => ?_⟩
    have := h3 ρ w
    simp only [Option.map_map] at this
    simp only [execOp, Option.map_none, Sem.run_bind, Sem.run_pure]
    rw [show (Option.map (fun x => (ev x).den ρ) lo) = Option.map (SV.den ρ ∘ ev) lo from rfl, show (Option.map (fun x => (ev x).den ρ) hi) = Option.map (SV.den ρ ∘ ev) hi from rfl, this]; rfl
  · simp at ht; subst ht
    obtain ⟨h1, h2, h3⟩ := extractS_spec (P := P) (hw _) h
    exact ⟨h1, fun p hp => h2 p (hp _ (by simp [Op.operands])), fun ρ w => by simp [execOp, h3 ρ w]⟩
  · -- makeFunc
    rename_i fn first caps
    split at ht
    case h_2 => cases ht
    rename_i f hfirst
    have hfirst : first = #[] := by apply Array.ext'; simpa using hfirst
    subst hfirst
    simp at ht; subst ht; rw [T.reach_ret] at h; subst h
    refine ⟨?_, fun p hp => ?_, fun ρ w => ?_⟩
    · simp only [wf]; exact wfL_iff.2 fun q hq => by simp at hq; obtain ⟨x, -, rfl⟩ := hq; exact hw _
    · simp only [SV.ids]; exact idsL_iff.2 fun q hq => by simp at hq; obtain ⟨x, hx, rfl⟩ := hq; exact hp _ (by simp [Op.operands, hx])
    · simp only [execOp, SV.den, denL_eq, Instr.makeFunc, Sem.run_bind, Sem.run_pure, Result.andThen_ok, Array.map_empty]
      congr 3
      apply Array.ext'; simp
  · -- call
    rename_i c
    split at ht
    · -- len
      rename_i hcal
      split at ht
      · rename_i lt x hlt hx
        simp at ht; subst ht
        obtain ⟨h1, h2⟩ := lenS_spec hc.tab h c.argTypes (c.args.map fun x => 0 |> fun _ => Value.nilFunc) hlt type
        refine ⟨h1.wf, fun p _ => h1.ids p, fun ρ w => ?_⟩
        obtain ⟨-, h2⟩ := lenS_spec hc.tab h c.argTypes (c.args.map fun x => (ev x).den ρ) hlt type
        have := h2 ρ w (by simp [hx])
        simp [execOp, resolve, hcal, invoke, builtin, this]
      · cases ht
    · rename_i f hcal
      split at ht
      · rename_i g caps hf
        split at ht
        · rename_i spec hspec
          simp at ht; subst ht
          obtain ⟨s1, s2⟩ := hc.ext g spec hspec
          have hargs : ∀ x ∈ c.args.toList.map ev ++ caps, wf x := fun x hx => by
            rw [List.mem_append] at hx
            rcases hx with hx | hx
            · simp at hx; obtain ⟨y, -, rfl⟩ := hx; exact hw _
            · have := hw f; rw [hf] at this; simp only [wf] at this; exact wfL_iff.1 this x hx
          refine ⟨s1.wf _ _ hargs h, fun p hp => s1.ids _ _ h p (fun x hx => ?_), fun ρ w => ?_⟩
          · rw [List.mem_append] at hx
            rcases hx with hx | hx
            · simp at hx; obtain ⟨y, hy, rfl⟩ := hx; exact hp _ (by simp [Op.operands, Call.operands, hcal, hy])
            · have := hp f (by simp [Op.operands, Call.operands, hcal]); rw [hf] at this; simp only [SV.ids] at this; exact idsL_iff.1 this x hx
          · have h2 := s2 _ _ hargs h ρ w
            have e : (denL ρ (c.args.toList.map ev ++ caps)).toArray = (c.args.map fun x => (ev x).den ρ) ++ (denL ρ caps).toArray := by
              apply Array.ext'; simp [denL_eq]
            rw [e] at h2
            simp only [execOp, resolve, hcal, hf, SV.den, Deferred.ofValue, Sem.run_bind, Sem.run_pure, Result.andThen_ok, invoke]
            simpa using h2
        · cases ht
      · cases ht
    · cases ht
  · cases ht
end Go.Sx
