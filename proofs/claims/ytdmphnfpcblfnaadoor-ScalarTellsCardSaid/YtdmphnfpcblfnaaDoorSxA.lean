import Derived.Still
import Derived.Laws.Bits
/- The symbolic layer, part A: symbolic values, symbolic memory, trees of conditions. Plain definitions and lemmas on them; no program in sight. -/
namespace Go.Sx

/-- A number that is written out, one that is not, or a capacity that a valuation tells. -/
inductive SN where
  | lit (n : Nat)
  | opn (n : Nat)
  | var (i : Nat)

inductive SV where
  | lit (k : IntKind) (n : Int)
  | int (k : IntKind) (n : Int)
  | tt
  | ff
  | bool (b : Bool)
  | ptr (b o : Nat) (x : SN)
  | slice (b o : Nat) (x len cap : SN)
  | raw (v : Value)
  | ints (k : IntKind) (n : Nat) (l : List Int)
  | agg (ps : List SV)
  | tup (ps : List SV)
  | fn (f : FuncId) (caps : List SV)
  | junk (i : Nat)

structure Env where
  blk : Nat → Nat
  off : Nat → Nat
  cap : Nat → Nat
  junk : Nat → Value

def SN.den (ρ : Env) : SN → Nat
  | .lit n => n
  | .opn n => n
  | .var i => ρ.cap i

mutual
def SV.den (ρ : Env) : SV → Value
  | .lit k n => .int k n
  | .int k n => .int k n
  | .tt => .bool true
  | .ff => .bool false
  | .bool b => .bool b
  | .ptr b o x => .pointer (some ⟨ρ.blk b, ρ.off b + (o + x.den ρ), none⟩)
  | .slice b o x len cap => .slice (some ⟨ρ.blk b, ρ.off b + (o + x.den ρ), none⟩) (len.den ρ) (cap.den ρ)
  | .raw v => v
  | .ints k _ l => .agg (l.map (Value.int k)).toArray
  | .agg ps => .agg (cellsL ρ ps).toArray
  | .tup ps => .tuple (denL ρ ps).toArray
  | .fn f caps => .func (.func f) #[] (denL ρ caps).toArray
  | .junk i => ρ.junk i
def cellsL (ρ : Env) : List SV → List Value
  | [] => []
  | p :: ps => (p.den ρ).cells.toList ++ cellsL ρ ps
def denL (ρ : Env) : List SV → List Value
  | [] => []
  | p :: ps => p.den ρ :: denL ρ ps
end

theorem denL_eq (ρ : Env) (l : List SV) : denL ρ l = l.map (SV.den ρ) := by
  induction l with
  | nil => simp [denL]
  | cons a l ih => simp [denL, ih]

theorem cellsL_append (ρ : Env) (a b : List SV) : cellsL ρ (a ++ b) = cellsL ρ a ++ cellsL ρ b := by
  induction a with
  | nil => simp [cellsL]
  | cons p ps ih => simp [cellsL, ih]

/-! ### Trees -/
inductive T (α : Type) : Type where
  | ret (a : α)
  | ite (b : Bool) (t f : T α)
  | need (p : Prop) (t : T α)
  | fail (why : String)

namespace T
variable {α β : Type}
def bind : T α → (α → T β) → T β
  | ret a, f => f a
  | ite b t e, f => ite b (t.bind f) (e.bind f)
  | need p t, f => need p (t.bind f)
  | fail s, _ => fail s

def good : T α → (α → Prop) → Prop
  | ret a, Q => Q a
  | ite b t e, Q => (b = true → t.good Q) ∧ (b = false → e.good Q)
  | need p t, Q => p ∧ t.good Q
  | fail _, _ => False

inductive Reach : T α → α → Prop where
  | ret (a : α) : Reach (.ret a) a
  | yes {b t e a} : b = true → Reach t a → Reach (.ite b t e) a
  | no {b t e a} : b = false → Reach e a → Reach (.ite b t e) a
  | need {p t a} : p → Reach t a → Reach (.need p t) a

theorem reach_of_good {t : T α} {Q : α → Prop} (h : t.good Q) : ∃ a, Reach t a ∧ Q a := by
  induction t with
  | ret a => exact ⟨a, .ret a, h⟩
  | ite b t e iht ihe =>
    cases hb : b with
    | true => obtain ⟨a, r, q⟩ := iht (h.1 hb); exact ⟨a, .yes rfl r, q⟩
    | false => obtain ⟨a, r, q⟩ := ihe (h.2 hb); exact ⟨a, .no rfl r, q⟩
  | need p t ih => obtain ⟨a, r, q⟩ := ih h.2; exact ⟨a, .need h.1 r, q⟩
  | fail s => exact h.elim

theorem good_of_reach {t : T α} {Q : α → Prop} {a : α} (r : Reach t a) (q : Q a) : t.good Q := by
  induction r with
  | ret a => exact q
  | yes hb _ ih => exact ⟨fun _ => ih q, fun h => by rw [hb] at h; cases h⟩
  | no hb _ ih => exact ⟨fun h => by (rw [hb] at h; cases h), fun _ => ih q⟩
  | need hp _ ih => exact ⟨hp, ih q⟩

theorem good_mono {t : T α} {Q Q' : α → Prop} (h : t.good Q) (hq : ∀ a, Q a → Q' a) : t.good Q' := by
  obtain ⟨a, r, q⟩ := reach_of_good h
  exact good_of_reach r (hq a q)

theorem good_bind {t : T α} {f : α → T β} {Q : β → Prop} : (t.bind f).good Q ↔ t.good (fun a => (f a).good Q) := by
  induction t with
  | ret a => simp [bind, good]
  | ite b t e iht ihe => simp [bind, good, iht, ihe]
  | need p t ih => simp [bind, good, ih]
  | fail s => simp [bind, good]

theorem reach_bind {t : T α} {f : α → T β} {b : β} : Reach (t.bind f) b ↔ ∃ a, Reach t a ∧ Reach (f a) b := by
  constructor
  · intro h
    have := good_of_reach (Q := (· = b)) h rfl
    rw [good_bind] at this
    obtain ⟨a, r, q⟩ := reach_of_good this
    obtain ⟨b', r', q'⟩ := reach_of_good q
    subst q'
    exact ⟨a, r, r'⟩
  · rintro ⟨a, r, r'⟩
    have h : (t.bind f).good (· = b) := by rw [good_bind]; exact good_of_reach r (good_of_reach r' rfl)
    obtain ⟨b', r'', q⟩ := reach_of_good h
    subst q
    exact r''

theorem reach_ret {a b : α} : Reach (.ret a) b ↔ b = a := ⟨fun h => by cases h; rfl, fun h => h ▸ .ret _⟩
theorem reach_need {p : Prop} {t : T α} {b : α} : Reach (.need p t) b ↔ p ∧ Reach t b := ⟨fun h => by cases h; exact ⟨‹_›, ‹_›⟩, fun h => .need h.1 h.2⟩
theorem reach_ite {c : Bool} {t e : T α} {b : α} : Reach (.ite c t e) b ↔ (c = true ∧ Reach t b) ∨ (c = false ∧ Reach e b) :=
  ⟨fun h => by
    cases h
    · exact .inl ⟨‹_›, ‹_›⟩
    · exact .inr ⟨‹_›, ‹_›⟩, fun h => by
    rcases h with ⟨h, r⟩ | ⟨h, r⟩
    · exact .yes h r
    · exact .no h r⟩
theorem reach_fail {s : String} {b : α} : ¬ Reach (.fail s) b := fun h => by cases h
end T

/-! ### Atoms, widths -/
def watom : SV → Nat
  | .ints _ n _ => n
  | _ => 1

def one : Value → Bool
  | .agg _ => false
  | .tuple _ => false
  | _ => true

theorem one_cells {v : Value} (h : one v = true) : v.cells = #[v] := by
  cases v <;> simp_all [one, Value.cells]

mutual
/-- What lies in memory: no struct, no tuple; lists as long as they say. -/
def isAtom : SV → Prop
  | .ints _ n l => l.length = n
  | .agg _ => False
  | .tup _ => False
  | .junk _ => False
  | .raw v => one v = true
  | .fn _ cs => wfL cs
  | .lit _ _ | .int _ _ | .tt | .ff | .bool _ | .ptr _ _ _ | .slice _ _ _ _ _ => True
/-- What a value must be like: lists as long as they say. -/
def wf : SV → Prop
  | .ints _ n l => l.length = n
  | .agg ps => atomsL ps
  | .tup ps => wfL ps
  | .fn _ cs => wfL cs
  | .lit _ _ | .int _ _ | .tt | .ff | .bool _ | .ptr _ _ _ | .slice _ _ _ _ _ | .raw _ | .junk _ => True
def atomsL : List SV → Prop
  | [] => True
  | p :: ps => isAtom p ∧ atomsL ps
def wfL : List SV → Prop
  | [] => True
  | p :: ps => wf p ∧ wfL ps
end

theorem atomsL_iff {ps : List SV} : atomsL ps ↔ ∀ p ∈ ps, isAtom p := by
  induction ps with
  | nil => simp [atomsL]
  | cons p ps ih => simp [atomsL, ih]

theorem wfL_iff {ps : List SV} : wfL ps ↔ ∀ p ∈ ps, wf p := by
  induction ps with
  | nil => simp [wfL]
  | cons p ps ih => simp [wfL, ih]

/-- An atom's cells are as many as its width. -/
theorem cells_atom {ρ : Env} {p : SV} (h : isAtom p) : (p.den ρ).cells.size = watom p := by
  cases p <;> simp [SV.den, watom, isAtom, Value.cells] at *
  case ints => exact h
  case raw v => cases v <;> simp_all [one]

def widthL : List SV → Nat
  | [] => 0
  | p :: ps => watom p + widthL ps

theorem widthL_append (a b : List SV) : widthL (a ++ b) = widthL a + widthL b := by
  induction a with
  | nil => simp [widthL]
  | cons p ps ih => simp [widthL, ih]; omega

theorem cellsL_length {ρ : Env} {ps : List SV} (h : ∀ p ∈ ps, isAtom p) : (cellsL ρ ps).length = widthL ps := by
  induction ps with
  | nil => rfl
  | cons p ps ih =>
    simp only [cellsL, widthL, List.length_append, Array.length_toList]
    rw [cells_atom (h p (by simp)), ih (fun q hq => h q (by simp [hq]))]

/-- Neighbours of one kind are one. -/
def consM (p : SV) (ps : List SV) : List SV :=
  match p, ps with
  | .ints k n l, .ints k' n' l' :: r => match decide (k = k') with
    | true => .ints k (n + n') (l ++ l') :: r
    | false => p :: ps
  | _, _ => p :: ps

def merge : List SV → List SV
  | [] => []
  | p :: ps => consM p (merge ps)

theorem cellsL_consM (ρ : Env) (p : SV) (ps : List SV) : cellsL ρ (consM p ps) = (p.den ρ).cells.toList ++ cellsL ρ ps := by
  unfold consM
  split
  · split
    · rename_i hk
      have : _ = _ := of_decide_eq_true hk
      subst this
      simp [cellsL, SV.den, Value.cells]
    · simp [cellsL]
  · simp [cellsL]

theorem cellsL_merge (ρ : Env) (ps : List SV) : cellsL ρ (merge ps) = cellsL ρ ps := by
  induction ps with
  | nil => rfl
  | cons p ps ih => simp [merge, cellsL_consM, ih, cellsL]

theorem atoms_consM {p : SV} {ps : List SV} (h : isAtom p) (hs : ∀ q ∈ ps, isAtom q) : ∀ q ∈ consM p ps, isAtom q := by
  unfold consM
  split
  · split
    · intro q hq
      simp at hq
      rcases hq with rfl | hq
      · have h2 := hs _ (List.mem_cons_self)
        simp [isAtom] at *; omega
      · exact hs _ (List.mem_cons_of_mem _ hq)
    · intro q hq
      rcases List.mem_cons.1 hq with rfl | hq
      · exact h
      · exact hs _ hq
  · intro q hq
    rcases List.mem_cons.1 hq with rfl | hq
    · exact h
    · exact hs _ hq

theorem atoms_merge {ps : List SV} (hs : ∀ q ∈ ps, isAtom q) : ∀ q ∈ merge ps, isAtom q := by
  induction ps with
  | nil => intro q hq; cases hq
  | cons p ps ih => exact atoms_consM (hs p (by simp)) (ih (fun q hq => hs q (by simp [hq])))

/-- A value's atoms; numbers alone become a list of one. -/
def atomsOf : SV → T (List SV)
  | .lit k n => .ret [.ints k 1 [n]]
  | .int k n => .ret [.ints k 1 [n]]
  | .agg ps => .ret ps
  | .tup _ => .fail "atomsOf: a tuple"
  | .junk _ => .fail "atomsOf: junk"
  | .raw v => .need (one v = true) (.ret [.raw v])
  | .ints k n l => .ret [.ints k n l]
  | v => .ret [v]

theorem atomsOf_cells {ρ : Env} {v : SV} {ps : List SV} (h : T.Reach (atomsOf v) ps) : cellsL ρ ps = (v.den ρ).cells.toList := by
  cases v <;> simp only [atomsOf, T.reach_ret, T.reach_need] at h
  case tup => exact (T.reach_fail h).elim
  case junk => exact (T.reach_fail h).elim
  case raw v => obtain ⟨hv, rfl⟩ := h; simp [cellsL, SV.den]
  all_goals (subst h; simp [cellsL, SV.den, Value.cells])

theorem atomsOf_atoms {v : SV} {ps : List SV} (hw : wf v) (h : T.Reach (atomsOf v) ps) : ∀ p ∈ ps, isAtom p := by
  cases v <;> simp only [atomsOf, T.reach_ret, T.reach_need] at h
  case tup => exact (T.reach_fail h).elim
  case junk => exact (T.reach_fail h).elim
  case raw v => obtain ⟨hv, rfl⟩ := h; simp [isAtom, hv]
  case agg => subst h; simp only [wf] at hw; exact atomsL_iff.1 hw
  all_goals (subst h; simp_all [isAtom, wf])

/-! ### Looking into a row of atoms -/
def sub (l : List Int) (i c : Nat) : List Int := (l.drop i).take c
def splice (l : List Int) (i : Nat) (v : List Int) : List Int := l.take i ++ v ++ l.drop (i + v.length)

def findPart : List SV → Nat → Option (List SV × SV × List SV × Nat)
  | [], _ => none
  | p :: ps, o => match Nat.ble (watom p) o with
    | true => match findPart ps (o - watom p) with
      | some (b, q, a, r) => some (p :: b, q, a, r)
      | none => none
    | false => some ([], p, ps, o)

theorem findPart_spec {ps : List SV} {o : Nat} {b : List SV} {q : SV} {a : List SV} {r : Nat} (h : findPart ps o = some (b, q, a, r)) :
    ps = b ++ q :: a ∧ o = widthL b + r ∧ r < watom q := by
  induction ps generalizing o b q a r with
  | nil => simp [findPart] at h
  | cons p ps ih =>
    simp only [findPart] at h
    split at h
    · rename_i hb
      split at h
      · rename_i b' q' a' r' hf
        simp at h
        obtain ⟨rfl, rfl, rfl, rfl⟩ := h
        obtain ⟨h1, h2, h3⟩ := ih hf
        have hb := Nat.le_of_ble_eq_true hb
        exact ⟨by simp [h1], by simp [widthL]; omega, h3⟩
      · cases h
    · rename_i hb
      simp at h
      obtain ⟨rfl, rfl, rfl, rfl⟩ := h
      refine ⟨rfl, by simp [widthL], ?_⟩
      have : ¬ (watom p ≤ o) := fun hh => by rw [Nat.ble_eq_true_of_le hh] at hb; cases hb
      omega

/-- The atoms of c cells from the front on. -/
def gather : List SV → Nat → Option (List SV)
  | [], c => match c with
    | 0 => some []
    | _ + 1 => none
  | p :: ps, c => match c with
    | 0 => some []
    | c' + 1 => match Nat.ble (watom p) (c' + 1) with
      | true => match gather ps (c' + 1 - watom p) with
        | some r => some (p :: r)
        | none => none
      | false => match p with
        | .ints k _ l => some [.ints k (c' + 1) (l.take (c' + 1))]
        | _ => none

theorem gather_spec {ρ : Env} {ps : List SV} {c : Nat} {r : List SV} (hs : ∀ q ∈ ps, isAtom q) (h : gather ps c = some r) :
    cellsL ρ r = (cellsL ρ ps).take c ∧ (∀ q ∈ r, isAtom q) ∧ widthL r = c := by
  induction ps generalizing c r with
  | nil => cases c <;> simp [gather] at h; subst h; simp [cellsL, widthL]
  | cons p ps ih =>
    cases c with
    | zero => simp [gather] at h; subst h; simp [cellsL, widthL]
    | succ c' =>
      simp only [gather] at h
      have hp := hs p (by simp)
      have hc := cells_atom (ρ := ρ) hp
      split at h
      · rename_i hb
        have hb := Nat.le_of_ble_eq_true hb
        split at h
        · rename_i r' hg
          simp at h; subst h
          obtain ⟨h1, h2, h3⟩ := ih (fun q hq => hs q (by simp [hq])) hg
          refine ⟨?_, ?_, ?_⟩
          · simp only [cellsL]
            rw [List.take_append, List.take_of_length_le (l := (SV.den ρ p).cells.toList) (by simp [hc]; omega), h1]
            simp [hc]
          · intro q hq
            rcases List.mem_cons.1 hq with rfl | hq
            · exact hp
            · exact h2 q hq
          · simp [widthL, h3]; omega
        · cases h
      · rename_i hb
        have hb : ¬ (watom p ≤ c' + 1) := fun hh => by rw [Nat.ble_eq_true_of_le hh] at hb; cases hb
        split at h
        · rename_i k n l
          simp at h; subst h
          simp [watom, isAtom] at hb hp
          refine ⟨?_, ?_, ?_⟩
          · simp only [cellsL, SV.den, Value.cells, List.append_nil]
            rw [List.take_append_of_le_length (by simp; omega)]
            simp [List.map_take]
          · intro q hq; simp at hq; subst hq; simp [isAtom]; omega
          · simp [widthL, watom]
        · cases h

/-- What is left behind c cells. -/
def skipTo : List SV → Nat → Option (List SV)
  | [], c => match c with
    | 0 => some []
    | _ + 1 => none
  | p :: ps, c => match Nat.ble (watom p) c with
    | true => skipTo ps (c - watom p)
    | false => match c with
      | 0 => some (p :: ps)
      | c' + 1 => match p with
        | .ints k n l => some (.ints k (n - (c' + 1)) (l.drop (c' + 1)) :: ps)
        | _ => none

theorem skipTo_spec {ρ : Env} {ps : List SV} {c : Nat} {r : List SV} (hs : ∀ q ∈ ps, isAtom q) (h : skipTo ps c = some r) :
    cellsL ρ r = (cellsL ρ ps).drop c ∧ (∀ q ∈ r, isAtom q) ∧ widthL r + c = widthL ps := by
  induction ps generalizing c r with
  | nil => cases c <;> simp [skipTo] at h; subst h; simp [cellsL, widthL]
  | cons p ps ih =>
    simp only [skipTo] at h
    have hp := hs p (by simp)
    have hc := cells_atom (ρ := ρ) hp
    split at h
    · rename_i hb
      have hb := Nat.le_of_ble_eq_true hb
      obtain ⟨h1, h2, h3⟩ := ih (fun q hq => hs q (by simp [hq])) h
      refine ⟨?_, h2, by simp [widthL]; omega⟩
      simp only [cellsL]
      rw [List.drop_append, List.drop_of_length_le (l := (SV.den ρ p).cells.toList) (by simp [hc]; omega), h1]
      simp [hc]
    · rename_i hb
      have hb : ¬ (watom p ≤ c) := fun hh => by rw [Nat.ble_eq_true_of_le hh] at hb; cases hb
      split at h
      · simp at h; subst h; exact ⟨by simp, hs, by simp⟩
      · rename_i c'
        split at h
        · rename_i k n l
          simp at h; subst h
          simp [watom, isAtom] at hb hp
          refine ⟨?_, ?_, ?_⟩
          · simp only [cellsL, SV.den, Value.cells]
            rw [List.drop_append_of_le_length (by simp; omega)]
            simp [List.map_drop]
          · intro q hq
            rcases List.mem_cons.1 hq with rfl | hq
            · simp [isAtom]; omega
            · exact hs q (by simp [hq])
          · simp [widthL, watom]; omega
        · cases h
end Go.Sx
