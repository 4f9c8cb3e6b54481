import Derived.Still
import Derived.Laws.Bits
import Derived.Below
import Derived.Laws.AppendOwn
import Derived.Laws.Sem
import Derived.Laws.StructEq
import Derived.Laws.MakeOwn
import Derived.Maps.AppendAt
import Derived.Deep.Upon
import Derived.Laws.Cover3
/- The symbolic layer, part A: symbolic values, symbolic memory, trees of conditions. Plain definitions and lemmas on them; no program in sight. -/
namespace Go.Sx

/-- A number that is written out, one that is not, or a capacity that a valuation tells. -/
inductive SN where
  | lit (n : Nat)
  | opn (n : Nat)
  | var (i : Nat)

inductive SV where
  | lit (k : IntKind) (n : Int)
  | int (k : IntKind) (n : Int)
  | tt
  | ff
  | bool (b : Bool)
  | ptr (b o : Nat) (x : SN)
  | slice (b o : Nat) (x len cap : SN)
  | raw (v : Value)
  | ints (k : IntKind) (n : Nat) (l : List Int)
  | agg (ps : List SV)
  | tup (ps : List SV)
  | fn (f : FuncId) (caps : List SV)
  | junk (i : Nat)
  /-- A slice: vector i. -/
  | sl (i : Nat)
  /-- The o-th cell of vector i. -/
  | vptr (i o : Nat)
  /-- A map. -/
  | mp (i : Nat)
  | str (l : List Int)

structure Env where
  blk : Nat → Nat
  off : Nat → Nat
  cap : Nat → Nat
  junk : Nat → Value
  vec : Nat → Value

/-- A slice's value, whatever it is. -/
def sliceV (v : Value) : Value := match v with
  | .slice a n c => .slice a n c
  | _ => .slice none 0 0
/-- The place of one of a slice's cells. -/
def cellV (v : Value) (o : Nat) : Value := match v with
  | .slice (some a) _ _ => .pointer (some (a.add o))
  | _ => .pointer none
/-- A map's value, whatever it is. -/
def mapV (v : Value) : Value := match v with
  | .map r => .map r
  | _ => .map none
/-- Bytes as a string. -/
def strV (l : List Int) : Value := .string ⟨(l.map fun x => UInt8.ofNat x.toNat).toArray⟩

def SN.den (ρ : Env) : SN → Nat
  | .lit n => n
  | .opn n => n
  | .var i => ρ.cap i

mutual
def SV.den (ρ : Env) : SV → Value
  | .lit k n => .int k n
  | .int k n => .int k n
  | .tt => .bool true
  | .ff => .bool false
  | .bool b => .bool b
  | .ptr b o x => .pointer (some ⟨ρ.blk b, ρ.off b + (o + x.den ρ), none⟩)
  | .slice b o x len cap => .slice (some ⟨ρ.blk b, ρ.off b + (o + x.den ρ), none⟩) (len.den ρ) (cap.den ρ)
  | .raw v => v
  | .ints k _ l => .agg (l.map (Value.int k)).toArray
  | .agg ps => .agg (cellsL ρ ps).toArray
  | .tup ps => .tuple (denL ρ ps).toArray
  | .fn f caps => .func (.func f) #[] (denL ρ caps).toArray
  | .junk i => ρ.junk i
  | .sl i => sliceV (ρ.vec i)
  | .vptr i o => cellV (ρ.vec i) o
  | .mp i => mapV (ρ.vec i)
  | .str l => strV l
def cellsL (ρ : Env) : List SV → List Value
  | [] => []
  | p :: ps => (p.den ρ).cells.toList ++ cellsL ρ ps
def denL (ρ : Env) : List SV → List Value
  | [] => []
  | p :: ps => p.den ρ :: denL ρ ps
end

theorem denL_eq (ρ : Env) (l : List SV) : denL ρ l = l.map (SV.den ρ) := by
  induction l with
  | nil => simp [denL]
  | cons a l ih => simp [denL, ih]

theorem cellsL_append (ρ : Env) (a b : List SV) : cellsL ρ (a ++ b) = cellsL ρ a ++ cellsL ρ b := by
  induction a with
  | nil => simp [cellsL]
  | cons p ps ih => simp [cellsL, ih]

/-! ### Trees -/
inductive T (α : Type) : Type where
  | ret (a : α)
  | ite (b : Bool) (t f : T α)
  | need (p : Prop) (t : T α)
  | fail (why : String)

namespace T
variable {α β : Type}
def bind : T α → (α → T β) → T β
  | ret a, f => f a
  | ite b t e, f => ite b (t.bind f) (e.bind f)
  | need p t, f => need p (t.bind f)
  | fail s, _ => fail s

def good : T α → (α → Prop) → Prop
  | ret a, Q => Q a
  | ite b t e, Q => (b = true → t.good Q) ∧ (b = false → e.good Q)
  | need p t, Q => p ∧ t.good Q
  | fail _, _ => False

inductive Reach : T α → α → Prop where
  | ret (a : α) : Reach (.ret a) a
  | yes {b t e a} : b = true → Reach t a → Reach (.ite b t e) a
  | no {b t e a} : b = false → Reach e a → Reach (.ite b t e) a
  | need {p t a} : p → Reach t a → Reach (.need p t) a

theorem reach_of_good {t : T α} {Q : α → Prop} (h : t.good Q) : ∃ a, Reach t a ∧ Q a := by
  induction t with
  | ret a => exact ⟨a, .ret a, h⟩
  | ite b t e iht ihe =>
    cases hb : b with
    | true => obtain ⟨a, r, q⟩ := iht (h.1 hb); exact ⟨a, .yes rfl r, q⟩
    | false => obtain ⟨a, r, q⟩ := ihe (h.2 hb); exact ⟨a, .no rfl r, q⟩
  | need p t ih => obtain ⟨a, r, q⟩ := ih h.2; exact ⟨a, .need h.1 r, q⟩
  | fail s => exact h.elim

theorem good_of_reach {t : T α} {Q : α → Prop} {a : α} (r : Reach t a) (q : Q a) : t.good Q := by
  induction r with
  | ret a => exact q
  | yes hb _ ih => exact ⟨fun _ => ih q, fun h => by rw [hb] at h; cases h⟩
  | no hb _ ih => exact ⟨fun h => by (rw [hb] at h; cases h), fun _ => ih q⟩
  | need hp _ ih => exact ⟨hp, ih q⟩

theorem good_mono {t : T α} {Q Q' : α → Prop} (h : t.good Q) (hq : ∀ a, Q a → Q' a) : t.good Q' := by
  obtain ⟨a, r, q⟩ := reach_of_good h
  exact good_of_reach r (hq a q)

theorem good_bind {t : T α} {f : α → T β} {Q : β → Prop} : (t.bind f).good Q ↔ t.good (fun a => (f a).good Q) := by
  induction t with
  | ret a => simp [bind, good]
  | ite b t e iht ihe => simp [bind, good, iht, ihe]
  | need p t ih => simp [bind, good, ih]
  | fail s => simp [bind, good]

theorem reach_bind {t : T α} {f : α → T β} {b : β} : Reach (t.bind f) b ↔ ∃ a, Reach t a ∧ Reach (f a) b := by
  constructor
  · intro h
    have := good_of_reach (Q := (· = b)) h rfl
    rw [good_bind] at this
    obtain ⟨a, r, q⟩ := reach_of_good this
    obtain ⟨b', r', q'⟩ := reach_of_good q
    subst q'
    exact ⟨a, r, r'⟩
  · rintro ⟨a, r, r'⟩
    have h : (t.bind f).good (· = b) := by rw [good_bind]; exact good_of_reach r (good_of_reach r' rfl)
    obtain ⟨b', r'', q⟩ := reach_of_good h
    subst q
    exact r''

theorem reach_ret {a b : α} : Reach (.ret a) b ↔ b = a := ⟨fun h => by cases h; rfl, fun h => h ▸ .ret _⟩
theorem reach_need {p : Prop} {t : T α} {b : α} : Reach (.need p t) b ↔ p ∧ Reach t b := ⟨fun h => by cases h; exact ⟨‹_›, ‹_›⟩, fun h => .need h.1 h.2⟩
theorem reach_ite {c : Bool} {t e : T α} {b : α} : Reach (.ite c t e) b ↔ (c = true ∧ Reach t b) ∨ (c = false ∧ Reach e b) :=
  ⟨fun h => by
    cases h
    · exact .inl ⟨‹_›, ‹_›⟩
    · exact .inr ⟨‹_›, ‹_›⟩, fun h => by
    rcases h with ⟨h, r⟩ | ⟨h, r⟩
    · exact .yes h r
    · exact .no h r⟩
theorem reach_fail {s : String} {b : α} : ¬ Reach (.fail s) b := fun h => by cases h
end T

/-! ### Atoms, widths -/
def watom : SV → Nat
  | .ints _ n _ => n
  | _ => 1

def one : Value → Bool
  | .agg _ => false
  | .tuple _ => false
  | _ => true

theorem sliceV_one (v : Value) : one (sliceV v) = true := by unfold sliceV; split <;> rfl
theorem cellV_one (v : Value) (o : Nat) : one (cellV v o) = true := by unfold cellV; split <;> rfl
theorem mapV_one (v : Value) : one (mapV v) = true := by unfold mapV; split <;> rfl
theorem strV_one (l : List Int) : one (strV l) = true := rfl
theorem one_cells {v : Value} (h : one v = true) : v.cells = #[v] := by
  cases v <;> simp_all [one, Value.cells]

mutual
/-- What lies in memory: no struct, no tuple; lists as long as they say. -/
def isAtom : SV → Prop
  | .ints _ n l => l.length = n
  | .agg _ => False
  | .tup _ => False
  | .junk _ => False
  | .raw v => one v = true
  | .fn _ cs => wfL cs
  | .lit _ _ | .int _ _ | .tt | .ff | .bool _ | .ptr _ _ _ | .slice _ _ _ _ _ | .sl _ | .vptr _ _ | .mp _ | .str _ => True
/-- What a value must be like: lists as long as they say. -/
def wf : SV → Prop
  | .ints _ n l => l.length = n
  | .agg ps => atomsL ps
  | .tup ps => wfL ps
  | .fn _ cs => wfL cs
  | .lit _ _ | .int _ _ | .tt | .ff | .bool _ | .ptr _ _ _ | .slice _ _ _ _ _ | .raw _ | .junk _ | .sl _ | .vptr _ _ | .mp _ | .str _ => True
def atomsL : List SV → Prop
  | [] => True
  | p :: ps => isAtom p ∧ atomsL ps
def wfL : List SV → Prop
  | [] => True
  | p :: ps => wf p ∧ wfL ps
end

theorem atomsL_iff {ps : List SV} : atomsL ps ↔ ∀ p ∈ ps, isAtom p := by
  induction ps with
  | nil => simp [atomsL]
  | cons p ps ih => simp [atomsL, ih]

theorem wfL_iff {ps : List SV} : wfL ps ↔ ∀ p ∈ ps, wf p := by
  induction ps with
  | nil => simp [wfL]
  | cons p ps ih => simp [wfL, ih]

/-- An atom's cells are as many as its width. -/
theorem cells_atom {ρ : Env} {p : SV} (h : isAtom p) : (p.den ρ).cells.size = watom p := by
  cases p
  case sl => simp only [SV.den, watom, one_cells (sliceV_one _)]; rfl
  case vptr => simp only [SV.den, watom, one_cells (cellV_one _ _)]; rfl
  case mp => simp only [SV.den, watom, one_cells (mapV_one _)]; rfl
  case str => rfl
  all_goals (simp [SV.den, watom, isAtom, Value.cells] at *)
  case ints => exact h
  case raw v => cases v <;> simp_all [one]

theorem den_one {ρ : Env} {v : SV} (h : isAtom v) (hn : ∀ k n l, v ≠ .ints k n l) : one (v.den ρ) = true := by
  cases v
  case sl => simp only [SV.den, sliceV_one]
  case vptr => simp only [SV.den, cellV_one]
  case mp => simp only [SV.den, mapV_one]
  case str => rfl
  case raw v => simp only [isAtom] at h; simp only [SV.den]; exact h
  case ints k n l => exact absurd rfl (hn k n l)
  all_goals first
    | (simp only [isAtom] at h; done)
    | (simp only [SV.den, one]; done)
    | (simp [isAtom] at h)

def widthL : List SV → Nat
  | [] => 0
  | p :: ps => watom p + widthL ps

theorem widthL_append (a b : List SV) : widthL (a ++ b) = widthL a + widthL b := by
  induction a with
  | nil => simp [widthL]
  | cons p ps ih => simp [widthL, ih]; omega

theorem cellsL_length {ρ : Env} {ps : List SV} (h : ∀ p ∈ ps, isAtom p) : (cellsL ρ ps).length = widthL ps := by
  induction ps with
  | nil => rfl
  | cons p ps ih =>
    simp only [cellsL, widthL, List.length_append, Array.length_toList]
    rw [cells_atom (h p (by simp)), ih (fun q hq => h q (by simp [hq]))]

/-- Neighbours of one kind are one. -/
def consM (p : SV) (ps : List SV) : List SV :=
  match p, ps with
  | .ints k n l, .ints k' n' l' :: r => match decide (k = k') with
    | true => .ints k (n + n') (l ++ l') :: r
    | false => p :: ps
  | _, _ => p :: ps

def merge : List SV → List SV
  | [] => []
  | p :: ps => consM p (merge ps)

theorem cellsL_consM (ρ : Env) (p : SV) (ps : List SV) : cellsL ρ (consM p ps) = (p.den ρ).cells.toList ++ cellsL ρ ps := by
  unfold consM
  split
  · split
    · rename_i hk
      have : _ = _ := of_decide_eq_true hk
      subst this
      simp [cellsL, SV.den, Value.cells]
    · simp [cellsL]
  · simp [cellsL]

theorem cellsL_merge (ρ : Env) (ps : List SV) : cellsL ρ (merge ps) = cellsL ρ ps := by
  induction ps with
  | nil => rfl
  | cons p ps ih => simp [merge, cellsL_consM, ih, cellsL]

theorem atoms_consM {p : SV} {ps : List SV} (h : isAtom p) (hs : ∀ q ∈ ps, isAtom q) : ∀ q ∈ consM p ps, isAtom q := by
  unfold consM
  split
  · split
    · intro q hq
      simp at hq
      rcases hq with rfl | hq
      · have h2 := hs _ (List.mem_cons_self)
        simp [isAtom] at *; omega
      · exact hs _ (List.mem_cons_of_mem _ hq)
    · intro q hq
      rcases List.mem_cons.1 hq with rfl | hq
      · exact h
      · exact hs _ hq
  · intro q hq
    rcases List.mem_cons.1 hq with rfl | hq
    · exact h
    · exact hs _ hq

theorem atoms_merge {ps : List SV} (hs : ∀ q ∈ ps, isAtom q) : ∀ q ∈ merge ps, isAtom q := by
  induction ps with
  | nil => intro q hq; cases hq
  | cons p ps ih => exact atoms_consM (hs p (by simp)) (ih (fun q hq => hs q (by simp [hq])))

/-- A value's atoms; numbers alone become a list of one. -/
def atomsOf : SV → T (List SV)
  | .lit k n => .ret [.ints k 1 [n]]
  | .int k n => .ret [.ints k 1 [n]]
  | .agg ps => .ret ps
  | .tup _ => .fail "atomsOf: a tuple"
  | .junk _ => .fail "atomsOf: junk"
  | .raw v => .need (one v = true) (.ret [.raw v])
  | .ints k n l => .ret [.ints k n l]
  | v => .ret [v]

theorem atomsOf_cells {ρ : Env} {v : SV} {ps : List SV} (h : T.Reach (atomsOf v) ps) : cellsL ρ ps = (v.den ρ).cells.toList := by
  cases v <;> simp only [atomsOf, T.reach_ret, T.reach_need] at h
  case tup => exact (T.reach_fail h).elim
  case junk => exact (T.reach_fail h).elim
  case raw v => obtain ⟨hv, rfl⟩ := h; simp [cellsL, SV.den]
  all_goals (subst h; simp [cellsL, SV.den, Value.cells])

theorem atomsOf_atoms {v : SV} {ps : List SV} (hw : wf v) (h : T.Reach (atomsOf v) ps) : ∀ p ∈ ps, isAtom p := by
  cases v <;> simp only [atomsOf, T.reach_ret, T.reach_need] at h
  case tup => exact (T.reach_fail h).elim
  case junk => exact (T.reach_fail h).elim
  case raw v => obtain ⟨hv, rfl⟩ := h; simp [isAtom, hv]
  case agg => subst h; simp only [wf] at hw; exact atomsL_iff.1 hw
  all_goals (subst h; simp_all [isAtom, wf])

/-! ### Looking into a row of atoms -/
def sub (l : List Int) (i c : Nat) : List Int := (l.drop i).take c
def splice (l : List Int) (i : Nat) (v : List Int) : List Int := l.take i ++ v ++ l.drop (i + v.length)

def findPart : List SV → Nat → Option (List SV × SV × List SV × Nat)
  | [], _ => none
  | p :: ps, o => match Nat.ble (watom p) o with
    | true => match findPart ps (o - watom p) with
      | some (b, q, a, r) => some (p :: b, q, a, r)
      | none => none
    | false => some ([], p, ps, o)

theorem findPart_spec {ps : List SV} {o : Nat} {b : List SV} {q : SV} {a : List SV} {r : Nat} (h : findPart ps o = some (b, q, a, r)) :
    ps = b ++ q :: a ∧ o = widthL b + r ∧ r < watom q := by
  induction ps generalizing o b q a r with
  | nil => simp [findPart] at h
  | cons p ps ih =>
    simp only [findPart] at h
    split at h
    · rename_i hb
      split at h
      · rename_i b' q' a' r' hf
        simp at h
        obtain ⟨rfl, rfl, rfl, rfl⟩ := h
        obtain ⟨h1, h2, h3⟩ := ih hf
        have hb := Nat.le_of_ble_eq_true hb
        exact ⟨by simp [h1], by simp [widthL]; omega, h3⟩
      · cases h
    · rename_i hb
      simp at h
      obtain ⟨rfl, rfl, rfl, rfl⟩ := h
      refine ⟨rfl, by simp [widthL], ?_⟩
      have : ¬ (watom p ≤ o) := fun hh => by rw [Nat.ble_eq_true_of_le hh] at hb; cases hb
      omega

/-- The atoms of c cells from the front on. -/
def gather : List SV → Nat → Option (List SV)
  | [], c => match c with
    | 0 => some []
    | _ + 1 => none
  | p :: ps, c => match c with
    | 0 => some []
    | c' + 1 => match Nat.ble (watom p) (c' + 1) with
      | true => match gather ps (c' + 1 - watom p) with
        | some r => some (p :: r)
        | none => none
      | false => match p with
        | .ints k _ l => some [.ints k (c' + 1) (l.take (c' + 1))]
        | _ => none

theorem gather_spec {ρ : Env} {ps : List SV} {c : Nat} {r : List SV} (hs : ∀ q ∈ ps, isAtom q) (h : gather ps c = some r) :
    cellsL ρ r = (cellsL ρ ps).take c ∧ (∀ q ∈ r, isAtom q) ∧ widthL r = c := by
  induction ps generalizing c r with
  | nil => cases c <;> simp [gather] at h; subst h; simp [cellsL, widthL]
  | cons p ps ih =>
    cases c with
    | zero => simp [gather] at h; subst h; simp [cellsL, widthL]
    | succ c' =>
      simp only [gather] at h
      have hp := hs p (by simp)
      have hc := cells_atom (ρ := ρ) hp
      split at h
      · rename_i hb
        have hb := Nat.le_of_ble_eq_true hb
        split at h
        · rename_i r' hg
          simp at h; subst h
          obtain ⟨h1, h2, h3⟩ := ih (fun q hq => hs q (by simp [hq])) hg
          refine ⟨?_, ?_, ?_⟩
          · simp only [cellsL]
            rw [List.take_append, List.take_of_length_le (l := (SV.den ρ p).cells.toList) (by simp [hc]; omega), h1]
            simp [hc]
          · intro q hq
            rcases List.mem_cons.1 hq with rfl | hq
            · exact hp
            · exact h2 q hq
          · simp [widthL, h3]; omega
        · cases h
      · rename_i hb
        have hb : ¬ (watom p ≤ c' + 1) := fun hh => by rw [Nat.ble_eq_true_of_le hh] at hb; cases hb
        split at h
        · rename_i k n l
          simp at h; subst h
          simp [watom, isAtom] at hb hp
          refine ⟨?_, ?_, ?_⟩
          · simp only [cellsL, SV.den, Value.cells, List.append_nil]
            rw [List.take_append_of_le_length (by simp; omega)]
            simp [List.map_take]
          · intro q hq; simp at hq; subst hq; simp [isAtom]; omega
          · simp [widthL, watom]
        · cases h

/-- What is left behind c cells. -/
def skipTo : List SV → Nat → Option (List SV)
  | [], c => match c with
    | 0 => some []
    | _ + 1 => none
  | p :: ps, c => match Nat.ble (watom p) c with
    | true => skipTo ps (c - watom p)
    | false => match c with
      | 0 => some (p :: ps)
      | c' + 1 => match p with
        | .ints k n l => some (.ints k (n - (c' + 1)) (l.drop (c' + 1)) :: ps)
        | _ => none

theorem skipTo_spec {ρ : Env} {ps : List SV} {c : Nat} {r : List SV} (hs : ∀ q ∈ ps, isAtom q) (h : skipTo ps c = some r) :
    cellsL ρ r = (cellsL ρ ps).drop c ∧ (∀ q ∈ r, isAtom q) ∧ widthL r + c = widthL ps := by
  induction ps generalizing c r with
  | nil => cases c <;> simp [skipTo] at h; subst h; simp [cellsL, widthL]
  | cons p ps ih =>
    simp only [skipTo] at h
    have hp := hs p (by simp)
    have hc := cells_atom (ρ := ρ) hp
    split at h
    · rename_i hb
      have hb := Nat.le_of_ble_eq_true hb
      obtain ⟨h1, h2, h3⟩ := ih (fun q hq => hs q (by simp [hq])) h
      refine ⟨?_, h2, by simp [widthL]; omega⟩
      simp only [cellsL]
      rw [List.drop_append, List.drop_of_length_le (l := (SV.den ρ p).cells.toList) (by simp [hc]; omega), h1]
      simp [hc]
    · rename_i hb
      have hb : ¬ (watom p ≤ c) := fun hh => by rw [Nat.ble_eq_true_of_le hh] at hb; cases hb
      split at h
      · simp at h; subst h; exact ⟨by simp, hs, by simp⟩
      · rename_i c'
        split at h
        · rename_i k n l
          simp at h; subst h
          simp [watom, isAtom] at hb hp
          refine ⟨?_, ?_, ?_⟩
          · simp only [cellsL, SV.den, Value.cells]
            rw [List.drop_append_of_le_length (by simp; omega)]
            simp [List.map_drop]
          · intro q hq
            rcases List.mem_cons.1 hq with rfl | hq
            · simp [isAtom]; omega
            · exact hs q (by simp [hq])
          · simp [widthL, watom]; omega
        · cases h
end Go.Sx

/- The symbolic layer, part B: blocks of cells, what is read out of them and written into them. -/
namespace Go.Sx

inductive Blk where
  | st (own : Bool) (ps : List SV)
  | dyn (own : Bool) (k : IntKind) (l : List Int)
  /-- A slice's elements, whatever its place: n of them, of type e, of st cells each. -/
  | vec (own : Bool) (e : TypeId) (k : IntKind) (st n : Nat) (l : List Int)
  /-- A part of one: n elements from the off-th one on. -/
  | view (p st off n : Nat)
  /-- Whether vector p is nil. -/
  | nz (p : Nat) (b : Bool)
  /-- A map: its keys (rows of numbers, or numbers), its numbers, in the order in which they came. -/
  | mp (agg : Bool) (sz : Nat) (k vk : IntKind) (es : List (List Int × Int))
  | gone

def Blk.cells (ρ : Env) : Blk → List Value
  | .st _ ps => cellsL ρ ps
  | .dyn _ k l => l.map (Value.int k)
  | .vec _ _ _ _ _ _ => []
  | .view _ _ _ _ => []
  | .nz _ _ => []
  | .mp _ _ _ _ _ => []
  | .gone => []

def Blk.own : Blk → Bool
  | .st o _ => o
  | .dyn o _ _ => o
  | .vec _ _ _ _ _ _ => false
  | .view _ _ _ _ => false
  | .nz _ _ => false
  | .mp _ _ _ _ _ => false
  | .gone => false

/-- A block of cells, that has its place. -/
def Blk.placed : Blk → Bool
  | .st _ _ => true
  | .dyn _ _ _ => true
  | _ => false

def Blk.atoms : Blk → Prop
  | .st _ ps => ∀ p ∈ ps, isAtom p
  | .dyn _ _ _ => True
  | .vec _ _ _ _ _ _ => True
  | .view _ _ _ _ => True
  | .nz _ _ => True
  | .mp _ _ _ _ _ => True
  | .gone => True

abbrev Mem := List (Nat × Blk)

def look : Mem → Nat → Option Blk
  | [], _ => none
  | (j, b) :: m, i => match Nat.beq j i with
    | true => some b
    | false => look m i

def upd : Mem → Nat → Blk → Mem
  | [], i, b => [(i, b)]
  | (j, c) :: m, i, b => match Nat.beq j i with
    | true => (j, b) :: m
    | false => (j, c) :: upd m i b

theorem beq_no {i j : Nat} (h : ¬ i = j) : Nat.beq i j = false := by
  cases hb : Nat.beq i j with
  | false => rfl
  | true => exact absurd (Nat.eq_of_beq_eq_true hb) h

theorem look_upd (m : Mem) (i j : Nat) (b : Blk) : look (upd m i b) j = if i = j then some b else look m j := by
  induction m with
  | nil =>
    simp only [upd, look]
    by_cases h : i = j
    · subst h; simp
    · have : Nat.beq i j = false := beq_no h
      simp [this, h]
  | cons x m ih =>
    obtain ⟨n, c⟩ := x
    simp only [upd]
    by_cases h : n = i
    · subst h
      simp only [Nat.beq_refl, look]
      by_cases h' : n = j
      · subst h'; simp
      · have : Nat.beq n j = false := beq_no h'
        simp [this, h']
    · have h1 : Nat.beq n i = false := beq_no h
      simp only [h1, look]
      by_cases h' : n = j
      · subst h'; simp [Ne.symm h]
      · have : Nat.beq n j = false := beq_no h'
        simp [this, ih]

/-! ### Reading -/
def addO : Nat → Nat → Nat
  | 0, i => i
  | o + 1, i => (o + 1) + i

theorem addO_eq (o i : Nat) : addO o i = o + i := by cases o <;> simp [addO]

def mkAgg : List SV → SV
  | [.ints k n l] => .ints k n l
  | ps => .agg ps

theorem mkAgg_den (ρ : Env) (ps : List SV) : (mkAgg ps).den ρ = .agg (cellsL ρ ps).toArray := by
  unfold mkAgg
  split
  · simp [SV.den, cellsL, Value.cells]
  · simp [SV.den]

theorem mkAgg_wf {ps : List SV} (h : ∀ p ∈ ps, isAtom p) : wf (mkAgg ps) := by
  unfold mkAgg
  split
  · rename_i k n l
    simpa [wf, isAtom] using h (.ints k n l) (by simp)
  · simpa only [wf] using atomsL_iff.2 h

def readWalk (ps : List SV) (o c : Nat) : T SV :=
  match skipTo ps o with
  | some qs => match gather qs c with
    | some rs => .ret (mkAgg rs)
    | none => .fail "read: gather"
  | none => .fail "read: skip"

def readSt (ps : List SV) (o c : Nat) (sc : Bool) : T SV :=
  match sc with
  | true => match findPart ps o with
    | some (_, p, _, r) => match p with
      | .ints k _ l => .ret (.int k (l.getD r 0))
      | p => .ret p
    | none => .fail "read: no such cell"
  | false => match findPart ps o with
    | some (_, .ints k n l, _, r) => match Nat.ble (r + c) n with
      | true => match Nat.beq c n with
        | true => .ret (.ints k n l)
        | false => .ret (.ints k c (sub l r c))
      | false => readWalk ps o c
    | _ => readWalk ps o c

def readOpn (ps : List SV) (o i c : Nat) (sc : Bool) : T SV :=
  match findPart ps o with
  | some (_, .ints k n l, _, r) => .need (addO r i + c ≤ n) (match sc with
    | true => .ret (.int k (l.getD (addO r i) 0))
    | false => .ret (.ints k c (sub l (addO r i) c)))
  | _ => .fail "read: an open place in no list of numbers"

def readDyn (k : IntKind) (l : List Int) (i c : Nat) (sc : Bool) : T SV :=
  .need (i + c ≤ l.length) (match sc with
    | true => .ret (.int k (l.getD i 0))
    | false => .ret (.ints k c (sub l i c)))

def readBlk (b : Blk) (o : Nat) (x : SN) (c : Nat) (sc : Bool) : T SV :=
  match b with
  | .st _ ps => match x with
    | .lit i => readSt ps (o + i) c sc
    | .opn i => readOpn ps o i c sc
    | .var _ => .fail "read: at a capacity"
  | .dyn _ k l => match x with
    | .lit i => readDyn k l (o + i) c sc
    | .opn i => readDyn k l (addO o i) c sc
    | .var _ => .fail "read: at a capacity"
  | .vec _ _ _ _ _ _ => .fail "read: a vector's block"
  | .view _ _ _ _ => .fail "read: a view"
  | .nz _ _ => .fail "read: nil or not"
  | .mp _ _ _ _ _ => .fail "read: a map"
  | .gone => .fail "read: a block that is gone"

/-- What has been read: the cell, or the cells. -/
def Got (ρ : Env) (cs : List Value) (o c : Nat) (sc : Bool) (v : SV) : Prop :=
  wf v ∧ match sc with
    | true => cs[o]? = some (v.den ρ) ∧ c = 1
    | false => v.den ρ = .agg ((cs.drop o).take c).toArray ∧ o + c ≤ cs.length

theorem cells_ints_getD {k : IntKind} {l : List Int} {i : Nat} (h : i < l.length) : (l.map (Value.int k))[i]? = some (.int k (l.getD i 0)) := by
  simp [List.getD, h]

theorem got_walk {ρ : Env} {ps : List SV} {o c : Nat} {v : SV} (hs : ∀ p ∈ ps, isAtom p) (h : T.Reach (readWalk ps o c) v) : Got ρ (cellsL ρ ps) o c false v := by
  unfold readWalk at h
  split at h
  · rename_i qs hq
    split at h
    · rename_i rs hg
      rw [T.reach_ret] at h; subst h
      obtain ⟨a1, a2, a3⟩ := skipTo_spec (ρ := ρ) hs hq
      obtain ⟨b1, b2, b3⟩ := gather_spec (ρ := ρ) a2 hg
      refine ⟨mkAgg_wf b2, ?_, ?_⟩
      · rw [mkAgg_den, b1, a1]
      · have h1 := cellsL_length (ρ := ρ) hs
        have h2 := cellsL_length (ρ := ρ) b2
        have h3 := cellsL_length (ρ := ρ) a2
        rw [b1, List.length_take] at h2
        rw [h1]; omega
    · exact (T.reach_fail h).elim
  · exact (T.reach_fail h).elim

theorem part_cell {ρ : Env} {ps bef aft : List SV} {p : SV} {o r : Nat} (hs : ∀ q ∈ ps, isAtom q) (h1 : ps = bef ++ p :: aft) (h2 : o = widthL bef + r) (h3 : r < watom p) :
    (cellsL ρ ps)[o]? = (p.den ρ).cells.toList[r]? := by
  have hb : (cellsL ρ bef).length = widthL bef := cellsL_length fun q hq => hs q (by rw [h1]; simp [hq])
  have hp : (p.den ρ).cells.size = watom p := cells_atom (hs p (by rw [h1]; simp))
  rw [h1, cellsL_append, h2, List.getElem?_append_right (by omega), hb]
  simp only [cellsL, Nat.add_sub_cancel_left]
  rw [List.getElem?_append_left (by simpa [hp] using h3)]

theorem got_st {ρ : Env} {ps : List SV} {o c : Nat} {sc : Bool} {v : SV} (hc : sc = true → c = 1) (hs : ∀ p ∈ ps, isAtom p) (h : T.Reach (readSt ps o c sc) v) : Got ρ (cellsL ρ ps) o c sc v := by
  unfold readSt at h
  split at h
  · -- one cell
    split at h
    · rename_i bef p aft r hf
      obtain ⟨h1, h2, h3⟩ := findPart_spec hf
      have hcell := part_cell (ρ := ρ) hs h1 h2 h3
      have hat := hs p (by rw [h1]; simp)
      split at h
      · rename_i k n l
        rw [T.reach_ret] at h; subst h
        refine ⟨by simp only [wf], ?_, hc rfl⟩
        simp [watom, isAtom] at h3 hat
        rw [hcell]
        simp only [SV.den, Value.cells]
        exact cells_ints_getD (by omega)
      · rename_i hni
        rw [T.reach_ret] at h; subst h
        have hw : watom v = 1 := by cases v <;> simp [watom] at *
        have hr : r = 0 := by omega
        subst hr
        refine ⟨?_, ?_, hc rfl⟩
        · cases v <;> simp [wf, isAtom] at * <;> exact hat
        · rw [hcell, one_cells (den_one hat (fun k n l e => hni k n l e))]
          rfl
    · exact (T.reach_fail h).elim
  · split at h
    · rename_i bef k n l aft r hf
      obtain ⟨h1, h2, h3⟩ := findPart_spec hf
      have hat := hs _ (show SV.ints k n l ∈ ps by rw [h1]; simp)
      simp [watom, isAtom] at h3 hat
      have hb : (cellsL ρ bef).length = widthL bef := cellsL_length fun q hq => hs q (by rw [h1]; simp [hq])
      split at h
      · rename_i hle
        have hle := Nat.le_of_ble_eq_true hle
        have key : ((cellsL ρ ps).drop o).take c = (sub l r c).map (Value.int k) ∧ o + c ≤ (cellsL ρ ps).length := by
          rw [h1, cellsL_append, h2]
          simp only [cellsL, SV.den, Value.cells, sub]
          constructor
          · rw [List.drop_append, List.drop_of_length_le (by omega), List.nil_append, hb, Nat.add_sub_cancel_left, List.drop_append_of_le_length (by simp; omega),
              List.take_append_of_le_length (by simp; omega)]
            simp [List.map_take, List.map_drop]
          · simp; omega
        split at h
        · rename_i hcn
          rw [T.reach_ret] at h; subst h
          have hcn : c = n := Nat.eq_of_beq_eq_true hcn
          have hr : r = 0 := by omega
          refine ⟨by simp [wf]; exact hat, ?_, key.2⟩
          rw [key.1, hr]
          simp [SV.den, sub, hcn, ← hat]
        · rw [T.reach_ret] at h; subst h
          refine ⟨by simp [wf, sub]; omega, ?_, key.2⟩
          rw [key.1]; rfl
      · exact got_walk hs h
    · exact got_walk hs h

theorem got_opn {ρ : Env} {ps : List SV} {o i c : Nat} {sc : Bool} {v : SV} (hc : sc = true → c = 1) (hs : ∀ p ∈ ps, isAtom p) (h : T.Reach (readOpn ps o i c sc) v) : Got ρ (cellsL ρ ps) (o + i) c sc v := by
  unfold readOpn at h
  split at h
  · rename_i bef k n l aft r hf
    obtain ⟨h1, h2, h3⟩ := findPart_spec hf
    have hat := hs _ (show SV.ints k n l ∈ ps by rw [h1]; simp)
    simp only [watom] at h3
    simp only [isAtom] at hat
    have hb : (cellsL ρ bef).length = widthL bef := cellsL_length fun q hq => hs q (by rw [h1]; simp [hq])
    rw [T.reach_need, addO_eq] at h
    obtain ⟨hle, h⟩ := h
    split at h
    · rw [T.reach_ret] at h; subst h
      have hc := hc rfl
      refine ⟨by simp only [wf], ?_, hc⟩
      rw [part_cell (ρ := ρ) (r := r + i) hs h1 (by omega) (by simp [watom]; omega)]
      simp only [SV.den, Value.cells]
      exact cells_ints_getD (by omega)
    · rw [T.reach_ret] at h; subst h
      refine ⟨by simp [wf, sub]; omega, ?_, ?_⟩
      · rw [h1, cellsL_append, h2]
        simp only [cellsL, SV.den, Value.cells, sub]
        rw [List.drop_append, List.drop_of_length_le (l := cellsL ρ bef) (by omega), List.nil_append, hb, Nat.add_assoc, Nat.add_sub_cancel_left, List.drop_append_of_le_length (by simp; omega),
          List.take_append_of_le_length (by simp; omega)]
        simp [List.map_take, List.map_drop]
      · rw [h1, cellsL_append]; simp [cellsL, SV.den, Value.cells]; omega
  · exact (T.reach_fail h).elim

theorem got_dyn {ρ : Env} {k : IntKind} {l : List Int} {i c : Nat} {sc : Bool} {v : SV} (hc : sc = true → c = 1) (h : T.Reach (readDyn k l i c sc) v) : Got ρ (l.map (Value.int k)) i c sc v := by
  unfold readDyn at h
  rw [T.reach_need] at h
  obtain ⟨hle, h⟩ := h
  split at h
  · rw [T.reach_ret] at h; subst h
    have hc := hc rfl
    exact ⟨by simp only [wf], cells_ints_getD (by omega), hc⟩
  · rw [T.reach_ret] at h; subst h
    refine ⟨by simp [wf, sub]; omega, ?_, by simpa using hle⟩
    simp [SV.den, sub, List.map_take, List.map_drop]

theorem got_blk {ρ : Env} {b : Blk} {o : Nat} {x : SN} {c : Nat} {sc : Bool} {v : SV} (hc : sc = true → c = 1) (hb : b.atoms) (h : T.Reach (readBlk b o x c sc) v) : Got ρ (b.cells ρ) (o + x.den ρ) c sc v := by
  unfold readBlk at h
  split at h
  · split at h
    · exact got_st hc hb h
    · exact got_opn hc hb h
    · exact (T.reach_fail h).elim
  · split at h
    · exact got_dyn hc h
    · rw [addO_eq] at h; exact got_dyn hc h
    · exact (T.reach_fail h).elim
  · exact (T.reach_fail h).elim
  · exact (T.reach_fail h).elim
  · exact (T.reach_fail h).elim
  · exact (T.reach_fail h).elim
  · exact (T.reach_fail h).elim

/-! ### Writing -/
def putL (l : List Int) (r n c : Nat) (lv : List Int) : List Int :=
  match Nat.beq c n with
  | true => lv
  | false => match c with
    | 1 => l.set r (lv.headD 0)
    | _ => splice l r lv

theorem putL_eq {l : List Int} {r n c : Nat} {lv : List Int} (hl : l.length = n) (hv : lv.length = c) (hle : r + c ≤ n) : putL l r n c lv = splice l r lv := by
  unfold putL
  split
  · rename_i h
    have h : c = n := Nat.eq_of_beq_eq_true h
    have hr : r = 0 := by omega
    simp [splice, hr]; omega
  · split
    · obtain ⟨v, rfl⟩ : ∃ v, lv = [v] := by
        match lv, hv with
        | [v], _ => exact ⟨v, rfl⟩
      simp only [splice, List.headD_cons, List.length_singleton]
      rw [List.set_eq_take_append_cons_drop, if_pos (by omega)]
      simp
    · rfl

def writeWalk (ps : List SV) (o c : Nat) (vs : List SV) : T (List SV) :=
  match gather ps o with
  | some a => match skipTo ps (o + c) with
    | some z => .ret (a ++ vs ++ z)
    | none => .fail "write: skip"
  | none => .fail "write: gather"

def writeSt (ps : List SV) (o c : Nat) (vs : List SV) : T (List SV) :=
  match findPart ps o with
  | some (bef, .ints k n l, aft, r) => match vs with
    | [.ints k' _ lv] => match decide (k = k') with
      | true => match Nat.ble (r + c) n with
        | true => .ret (bef ++ .ints k n (putL l r n c lv) :: aft)
        | false => writeWalk ps o c vs
      | false => writeWalk ps o c vs
    | _ => writeWalk ps o c vs
  | _ => writeWalk ps o c vs

def writeOpn (ps : List SV) (o i c : Nat) (vs : List SV) : T (List SV) :=
  match findPart ps o with
  | some (bef, .ints k n l, aft, r) => match vs with
    | [.ints k' _ lv] => match decide (k = k') with
      | true => .need (addO r i + c ≤ n) (.ret (bef ++ .ints k n (putL l (addO r i) n c lv) :: aft))
      | false => .fail "write: kinds"
    | _ => .fail "write: an open place"
  | _ => .fail "write: an open place in no list of numbers"

def writeDyn (k : IntKind) (l : List Int) (i c : Nat) (vs : List SV) : T (List Int) :=
  match vs with
  | [.ints k' _ lv] => match decide (k = k') with
    | true => .need (i + c ≤ l.length) (match c with
      | 1 => .ret (l.set i (lv.headD 0))
      | _ => .ret (splice l i lv))
    | false => .fail "write: kinds"
  | _ => .fail "write: no list of numbers"

def writeBlk (b : Blk) (o : Nat) (x : SN) (c : Nat) (vs : List SV) : T Blk :=
  match b with
  | .st w ps => match x with
    | .lit i => (writeSt ps (o + i) c vs).bind fun ps' => .ret (.st w ps')
    | .opn i => (writeOpn ps o i c vs).bind fun ps' => .ret (.st w ps')
    | .var _ => .fail "write: at a capacity"
  | .dyn w k l => match x with
    | .lit i => (writeDyn k l (o + i) c vs).bind fun l' => .ret (.dyn w k l')
    | .opn i => (writeDyn k l (addO o i) c vs).bind fun l' => .ret (.dyn w k l')
    | .var _ => .fail "write: at a capacity"
  | .vec _ _ _ _ _ _ => .fail "write: a vector's block"
  | .view _ _ _ _ => .fail "write: a view"
  | .nz _ _ => .fail "write: nil or not"
  | .mp _ _ _ _ _ => .fail "write: a map"
  | .gone => .fail "write: a block that is gone"

/-- What a row is behind a write. -/
def Put (cs : List Value) (o : Nat) (vs cs' : List Value) : Prop := cs' = cs.take o ++ vs ++ cs.drop (o + vs.length) ∧ o + vs.length ≤ cs.length

theorem map_splice (f : Int → Value) (l lv : List Int) (i : Nat) : (splice l i lv).map f = (l.map f).take i ++ lv.map f ++ (l.map f).drop (i + (lv.map f).length) := by
  simp [splice, List.map_take, List.map_drop]

theorem put_walk {ρ : Env} {ps : List SV} {o c : Nat} {vs ps' : List SV} (hs : ∀ p ∈ ps, isAtom p) (hv : ∀ p ∈ vs, isAtom p) (hw : widthL vs = c) (h : T.Reach (writeWalk ps o c vs) ps') :
    Put (cellsL ρ ps) o (cellsL ρ vs) (cellsL ρ ps') ∧ ∀ p ∈ ps', isAtom p := by
  unfold writeWalk at h
  split at h
  · rename_i a ha
    split at h
    · rename_i z hz
      rw [T.reach_ret] at h; subst h
      obtain ⟨a1, a2, a3⟩ := gather_spec (ρ := ρ) hs ha
      obtain ⟨b1, b2, b3⟩ := skipTo_spec (ρ := ρ) hs hz
      have hvl := cellsL_length (ρ := ρ) hv
      have hpl := cellsL_length (ρ := ρ) hs
      refine ⟨⟨?_, by omega⟩, ?_⟩
      · rw [cellsL_append, cellsL_append, a1, b1, hvl, hw]
      · intro p hp
        simp only [List.mem_append] at hp
        rcases hp with (hp | hp) | hp
        · exact a2 p hp
        · exact hv p hp
        · exact b2 p hp
    · exact (T.reach_fail h).elim
  · exact (T.reach_fail h).elim

theorem put_part {ρ : Env} {ps bef aft : List SV} {k : IntKind} {n : Nat} {l : List Int} {o r c m : Nat} {lv : List Int} (hs : ∀ q ∈ ps, isAtom q) (h1 : ps = bef ++ .ints k n l :: aft)
    (h2 : o = widthL bef + r) (hlv : lv.length = m) (hm : m = c) (hle : r + c ≤ n) :
    Put (cellsL ρ ps) o (cellsL ρ [.ints k m lv]) (cellsL ρ (bef ++ .ints k n (putL l r n c lv) :: aft)) ∧ ∀ p ∈ bef ++ .ints k n (putL l r n c lv) :: aft, isAtom p := by
  have hat := hs _ (show SV.ints k n l ∈ ps by rw [h1]; simp)
  simp only [isAtom] at hat
  have hb : (cellsL ρ bef).length = widthL bef := cellsL_length fun q hq => hs q (by rw [h1]; simp [hq])
  rw [putL_eq hat (by omega) hle]
  subst hm
  refine ⟨⟨?_, ?_⟩, ?_⟩
  · rw [h1, cellsL_append, cellsL_append]
    simp only [cellsL, SV.den, Value.cells, List.append_nil, map_splice]
    rw [h2]
    simp only [List.length_map, hlv]
    rw [List.take_append, List.take_of_length_le (l := cellsL ρ bef) (by omega), hb, Nat.add_sub_cancel_left,
      List.take_append_of_le_length (by simp; omega),
      List.drop_append, List.drop_of_length_le (l := cellsL ρ bef) (by omega), hb, List.nil_append,
      show widthL bef + r + m - widthL bef = r + m from by omega, List.drop_append_of_le_length (by simp; omega)]
    simp
  · rw [h1, cellsL_append]; simp [cellsL, SV.den, Value.cells]; omega
  · intro p hp
    rw [List.mem_append] at hp
    rcases hp with hp | hp
    · exact hs p (by rw [h1]; simp [hp])
    · rcases List.mem_cons.1 hp with rfl | hp
      · simp [isAtom, splice]; omega
      · exact hs p (by rw [h1]; simp [hp])

theorem put_st {ρ : Env} {ps : List SV} {o c : Nat} {vs ps' : List SV} (hs : ∀ p ∈ ps, isAtom p) (hv : ∀ p ∈ vs, isAtom p) (hw : widthL vs = c) (h : T.Reach (writeSt ps o c vs) ps') :
    Put (cellsL ρ ps) o (cellsL ρ vs) (cellsL ρ ps') ∧ ∀ p ∈ ps', isAtom p := by
  unfold writeSt at h
  split at h
  · rename_i bef k n l aft r hf
    obtain ⟨h1, h2, h3⟩ := findPart_spec hf
    split at h
    · rename_i k' n' lv
      split at h
      · rename_i hk
        have hk : k = k' := of_decide_eq_true hk
        subst hk
        split at h
        · rename_i hle
          have hle := Nat.le_of_ble_eq_true hle
          rw [T.reach_ret] at h; subst h
          have hlv := hv _ (show SV.ints k n' lv ∈ _ by simp)
          simp only [isAtom] at hlv
          simp [widthL, watom] at hw
          exact put_part hs h1 h2 hlv hw hle
        · exact put_walk hs hv hw h
      · exact put_walk hs hv hw h
    · exact put_walk hs hv hw h
  · exact put_walk hs hv hw h

theorem put_opn {ρ : Env} {ps : List SV} {o i c : Nat} {vs ps' : List SV} (hs : ∀ p ∈ ps, isAtom p) (hv : ∀ p ∈ vs, isAtom p) (hw : widthL vs = c) (h : T.Reach (writeOpn ps o i c vs) ps') :
    Put (cellsL ρ ps) (o + i) (cellsL ρ vs) (cellsL ρ ps') ∧ ∀ p ∈ ps', isAtom p := by
  unfold writeOpn at h
  split at h
  · rename_i bef k n l aft r hf
    obtain ⟨h1, h2, h3⟩ := findPart_spec hf
    split at h
    · rename_i k' n' lv
      split at h
      · rename_i hk
        have hk : k = k' := of_decide_eq_true hk
        subst hk
        rw [T.reach_need, T.reach_ret] at h
        simp only [addO_eq] at h
        obtain ⟨hle, rfl⟩ := h
        have hlv := hv _ (show SV.ints k n' lv ∈ _ by simp)
        simp only [isAtom] at hlv
        simp [widthL, watom] at hw
        exact put_part hs h1 (by omega) hlv hw hle
      · exact (T.reach_fail h).elim
    · exact (T.reach_fail h).elim
  · exact (T.reach_fail h).elim

theorem put_dyn {ρ : Env} {k : IntKind} {l l' : List Int} {i c : Nat} {vs : List SV} (hv : ∀ p ∈ vs, isAtom p) (hw : widthL vs = c) (h : T.Reach (writeDyn k l i c vs) l') :
    Put (l.map (Value.int k)) i (cellsL ρ vs) (l'.map (Value.int k)) ∧ l'.length = l.length := by
  unfold writeDyn at h
  split at h
  · rename_i k' n' lv
    have hlv := hv _ (show SV.ints k' n' lv ∈ _ by simp)
    simp only [isAtom] at hlv
    simp [widthL, watom] at hw
    split at h
    · rename_i hk
      have hk : k = k' := of_decide_eq_true hk
      subst hk
      rw [T.reach_need] at h
      obtain ⟨hle, h⟩ := h
      have key : l' = splice l i lv := by
        split at h
        · rw [T.reach_ret] at h; subst h
          obtain ⟨v, rfl⟩ : ∃ v, lv = [v] := by
            match lv, hlv.trans hw with
            | [v], _ => exact ⟨v, rfl⟩
          simp only [splice, List.headD_cons, List.length_singleton]
          rw [List.set_eq_take_append_cons_drop, if_pos (by omega)]
          simp
        · rw [T.reach_ret] at h; exact h
      subst key
      refine ⟨⟨?_, ?_⟩, ?_⟩
      · simp only [cellsL, SV.den, Value.cells, List.append_nil, map_splice]
      · simp [cellsL, SV.den, Value.cells]; omega
      · simp [splice]; omega
    · exact (T.reach_fail h).elim
  · exact (T.reach_fail h).elim

theorem put_blk {ρ : Env} {b b' : Blk} {o : Nat} {x : SN} {c : Nat} {vs : List SV} (hb : b.atoms) (hv : ∀ p ∈ vs, isAtom p) (hw : widthL vs = c) (h : T.Reach (writeBlk b o x c vs) b') :
    Put (b.cells ρ) (o + x.den ρ) (cellsL ρ vs) (b'.cells ρ) ∧ b'.atoms ∧ b'.own = b.own := by
  unfold writeBlk at h
  split at h
  · split at h
    all_goals (try exact (T.reach_fail h).elim)
    all_goals
      rw [T.reach_bind] at h
      obtain ⟨ps', h1, h2⟩ := h
      rw [T.reach_ret] at h2; subst h2
    · obtain ⟨p1, p2⟩ := put_st (ρ := ρ) hb hv hw h1; exact ⟨p1, p2, rfl⟩
    · obtain ⟨p1, p2⟩ := put_opn (ρ := ρ) hb hv hw h1; exact ⟨p1, p2, rfl⟩
  · split at h
    all_goals (try exact (T.reach_fail h).elim)
    all_goals
      rw [T.reach_bind] at h
      obtain ⟨ps', h1, h2⟩ := h
      rw [T.reach_ret] at h2; subst h2
    · obtain ⟨p1, p2⟩ := put_dyn (ρ := ρ) hv hw h1; exact ⟨p1, trivial, rfl⟩
    · rw [addO_eq] at h1
      obtain ⟨p1, p2⟩ := put_dyn (ρ := ρ) hv hw h1; exact ⟨p1, trivial, rfl⟩
  · exact (T.reach_fail h).elim
  · exact (T.reach_fail h).elim
  · exact (T.reach_fail h).elim
  · exact (T.reach_fail h).elim
  · exact (T.reach_fail h).elim
end Go.Sx

/- The symbolic layer, part C: how a symbolic state stands to a frame and a world. -/
namespace Go.Sx
open Go.RowKit (Below)

structure St where
  tmps : List SV
  mem : Mem
  next : Nat

structure Gam where
  w0 : World
  ρ0 : Env
  n0 : Nat
  G : World → Prop
  /-- Blocks that stay as they are, of the frames ahead: marks, records of loops. -/
  kp : Nat → Obj → Prop
  /-- How many blocks there are at least. -/
  sz : Nat

def SN.ids (p : Nat → Prop) : SN → Prop
  | .var i => p i
  | _ => True

mutual
def SV.ids (p : Nat → Prop) : SV → Prop
  | .ptr b _ x => p b ∧ x.ids p
  | .slice b _ x l c => p b ∧ x.ids p ∧ l.ids p ∧ c.ids p
  | .agg ps => idsL p ps
  | .tup ps => idsL p ps
  | .fn _ cs => idsL p cs
  | .sl i => p i
  | .vptr i _ => p i
  | .mp i => p i
  | .lit _ _ | .int _ _ | .tt | .ff | .bool _ | .raw _ | .ints _ _ _ | .junk _ | .str _ => True
def idsL (p : Nat → Prop) : List SV → Prop
  | [] => True
  | v :: vs => v.ids p ∧ idsL p vs
end

theorem idsL_iff {p : Nat → Prop} {l : List SV} : idsL p l ↔ ∀ v ∈ l, v.ids p := by
  induction l with
  | nil => simp [idsL]
  | cons a l ih => simp [idsL, ih]

theorem idsL_append {p : Nat → Prop} {a b : List SV} : idsL p (a ++ b) ↔ idsL p a ∧ idsL p b := by
  simp only [idsL_iff, List.mem_append]
  exact ⟨fun h => ⟨fun v hv => h v (.inl hv), fun v hv => h v (.inr hv)⟩, fun h v hv => hv.elim (h.1 v) (h.2 v)⟩

structure Agree (p : Nat → Prop) (ρ ρ' : Env) : Prop where
  blk : ∀ i, p i → ρ'.blk i = ρ.blk i
  off : ∀ i, p i → ρ'.off i = ρ.off i
  cap : ∀ i, p i → ρ'.cap i = ρ.cap i
  vec : ∀ i, p i → ρ'.vec i = ρ.vec i
  junk : ρ'.junk = ρ.junk

theorem SN.den_agree {p : Nat → Prop} {ρ ρ' : Env} (h : Agree p ρ ρ') {x : SN} (hx : x.ids p) : x.den ρ' = x.den ρ := by
  cases x <;> simp [SN.den, SN.ids] at *
  exact h.cap _ hx

mutual
theorem SV.den_agree {p : Nat → Prop} {ρ ρ' : Env} (h : Agree p ρ ρ') : (v : SV) → v.ids p → v.den ρ' = v.den ρ
  | .lit _ _, _ => by simp [SV.den]
  | .int _ _, _ => by simp [SV.den]
  | .tt, _ => by simp [SV.den]
  | .ff, _ => by simp [SV.den]
  | .bool _, _ => by simp [SV.den]
  | .raw _, _ => by simp [SV.den]
  | .junk _, _ => by simp [SV.den, h.junk]
  | .ints _ _ _, _ => by simp [SV.den]
  | .str _, _ => by simp [SV.den]
  | .sl i, hi => by simp only [SV.ids] at hi; simp [SV.den, h.vec i hi]
  | .vptr i _, hi => by simp only [SV.ids] at hi; simp [SV.den, h.vec i hi]
  | .mp i, hi => by simp only [SV.ids] at hi; simp [SV.den, h.vec i hi]
  | .ptr b o x, hi => by
    simp only [SV.ids] at hi
    simp [SV.den, h.blk b hi.1, h.off b hi.1, SN.den_agree h hi.2]
  | .slice b o x l c, hi => by
    simp only [SV.ids] at hi
    simp [SV.den, h.blk b hi.1, h.off b hi.1, SN.den_agree h hi.2.1, SN.den_agree h hi.2.2.1, SN.den_agree h hi.2.2.2]
  | .agg ps, hi => by
    simp only [SV.ids] at hi
    simp [SV.den, cellsL_agree h ps hi]
  | .tup ps, hi => by
    simp only [SV.ids] at hi
    simp [SV.den, denL_agree h ps hi]
  | .fn f cs, hi => by
    simp only [SV.ids] at hi
    simp [SV.den, denL_agree h cs hi]
theorem cellsL_agree {p : Nat → Prop} {ρ ρ' : Env} (h : Agree p ρ ρ') : (l : List SV) → idsL p l → cellsL ρ' l = cellsL ρ l
  | [], _ => by simp [cellsL]
  | v :: vs, hi => by
    simp only [idsL] at hi
    simp [cellsL, SV.den_agree h v hi.1, cellsL_agree h vs hi.2]
theorem denL_agree {p : Nat → Prop} {ρ ρ' : Env} (h : Agree p ρ ρ') : (l : List SV) → idsL p l → denL ρ' l = denL ρ l
  | [], _ => by simp [denL]
  | v :: vs, hi => by
    simp only [idsL] at hi
    simp [denL, SV.den_agree h v hi.1, denL_agree h vs hi.2]
end

def Blk.ids (p : Nat → Prop) : Blk → Prop
  | .st _ ps => idsL p ps
  | .dyn _ _ _ => True
  | .vec _ _ _ _ _ _ => True
  | .view q _ _ _ => p q
  | .nz q _ => p q
  | .mp _ _ _ _ _ => True
  | .gone => True

theorem Blk.cells_agree {p : Nat → Prop} {ρ ρ' : Env} (h : Agree p ρ ρ') {b : Blk} (hb : b.ids p) : b.cells ρ' = b.cells ρ := by
  cases b with
  | st o ps => exact cellsL_agree h ps hb
  | dyn o k l => rfl
  | vec o e k st n l => rfl
  | view q st o n => rfl
  | nz q b => rfl
  | mp a z k v es => rfl
  | gone => rfl

/-- The numbers that name a block. -/
def St.has (S : St) (i : Nat) : Prop := (look S.mem i).isSome = true

/-- 1000000 and a variable's number name its block. -/
def gid (g : Nat) : Nat := 1000000 + g

/-- What is fixed from the call's beginning on. -/
def Gam.pinned (Γ : Gam) (i : Nat) : Prop := i < Γ.n0 ∨ 1000000 ≤ i

/-- What is pinned. -/
structure Pin (p : Nat → Prop) (ρ ρ' : Env) : Prop where
  blk : ∀ i, p i → ρ'.blk i = ρ.blk i
  off : ∀ i, p i → ρ'.off i = ρ.off i
  cap : ∀ i, p i → ρ'.cap i = ρ.cap i
  vec : ∀ i, p i → ρ'.vec i = ρ.vec i

/-- The block in which a slice lies, if it has any room. -/
def physV (v : Value) : Option Nat := match v with
  | .slice (some a) _ c => match c with
    | 0 => none
    | _ + 1 => some a.block
  | _ => none
/-- A slice of the call's own: its elements; it has no room, or lies at the head of a row of its own. -/
def VecOwn (w : World) (base : Nat) (e : TypeId) (st : Nat) (v : Value) (n : Nat) (xs : List Value) : Prop :=
  (∃ ao, v = .slice ao 0 0 ∧ n = 0 ∧ xs = []) ∨ (∃ g c, 0 < c ∧ v = .slice (some ⟨g, 0, none⟩) n c ∧ w.ownsRow base e st v n xs)
/-- The type's number of a row that bears the mark of a text's bytes: nothing is stored in it, or put behind it. -/
def mkE (e : TypeId) : Bool := Nat.ble 1000000 e
/-- A row with the mark. -/
def MarkRow (w : World) (base st g n c : Nat) (xs : List Value) : Prop :=
  base ≤ g ∧ xs.length = n * st ∧ n ≤ c ∧ ∃ cur el, w.heap[g]? = some (.cells cur el (cur.size, cur.size + 1)) ∧ cur.size = c * st ∧ cur.toList.take (n * st) = xs
/-- A slice of the call's own, with the mark or without it. -/
def VecOwm (w : World) (base : Nat) (e : TypeId) (st : Nat) (v : Value) (n : Nat) (xs : List Value) : Prop :=
  VecOwn w base e st v n xs ∨ (mkE e = true ∧ ∃ g c, 0 < c ∧ v = .slice (some ⟨g, 0, none⟩) n c ∧ MarkRow w base st g n c xs)
theorem VecOwm.strip {w : World} {base : Nat} {e : TypeId} {st : Nat} {v : Value} {n : Nat} {xs : List Value} (h : VecOwm w base e st v n xs) (he : mkE e = false) : VecOwn w base e st v n xs := by
  rcases h with h | ⟨h, -⟩
  · exact h
  · rw [he] at h; cases h
/-- A slice that came in. -/
def VecRead (w : World) (base : Nat) (st : Nat) (v : Value) (n : Nat) (xs : List Value) : Prop :=
  xs.length = n * st ∧ ∃ a c, v = .slice a n c ∧ n ≤ c ∧ (xs = [] ∨ ∃ g o, a = some ⟨g, o, none⟩ ∧ g < base ∧ ∀ j u, xs[j]? = some u → w.cell? ⟨g, o + j, none⟩ = some u)

/-- A slice that is a part of another one. -/
def VecPart (st : Nat) (u : Value) (off : Nat) (v : Value) (n : Nat) : Prop :=
  ∃ a c, v = .slice a n c ∧ n ≤ c ∧ (n = 0 ∨ ∃ g o n0 c0, u = .slice (some ⟨g, o, none⟩) n0 c0 ∧ a = some ⟨g, o + off * st, none⟩ ∧ off + n ≤ n0)

/-- Whether a slice is nil. -/
def NilIs (v : Value) (b : Bool) : Prop := ∃ ao n c, v = .slice ao n c ∧ ao.isNone = b
def keyV (agg : Bool) (k : IntKind) (l : List Int) : Value := match agg with
  | true => .agg (l.map (Value.int k)).toArray
  | false => .int k (l.getD 0 0)
/-- A map's entries. -/
def ents (agg : Bool) (k vk : IntKind) : Nat → List (List Int × Int) → List MapEntry
  | _, [] => []
  | j, (l, x) :: es => { key := keyV agg k l, val := .int vk x, born := j } :: ents agg k vk (j + 1) es
/-- A map of the call's own. -/
def MapOwn (w : World) (base : Nat) (v : Value) (agg : Bool) (sz : Nat) (k vk : IntKind) (es : List (List Int × Int)) : Prop :=
  (∀ p ∈ es, p.1.length = sz) ∧ ∃ r, v = .map (some r) ∧ base ≤ r ∧ w.heap[r]? = some (.map (ents agg k vk 0 es).toArray es.length)
def physM (v : Value) : Option Nat := match v with
  | .map r => r
  | _ => none
theorem MapOwn.lt {w : World} {base : Nat} {v : Value} {agg : Bool} {sz : Nat} {k vk : IntKind} {es : List (List Int × Int)} (h : MapOwn w base v agg sz k vk es) {g : Nat} (hg : physM v = some g) : base ≤ g ∧ g < w.heap.size := by
  obtain ⟨-, r, rfl, h1, h2⟩ := h
  cases hg
  refine ⟨h1, ?_⟩
  rcases Nat.lt_or_ge g w.heap.size with hl | hl
  · exact hl
  · rw [Array.getElem?_eq_none hl] at h2; cases h2
theorem MapOwn.kept {w w' : World} {base : Nat} {v : Value} {agg : Bool} {sz : Nat} {k vk : IntKind} {es : List (List Int × Int)} (h : MapOwn w base v agg sz k vk es) {row : Option Nat} (hg : w.grownBy w' row) (hne : ∀ g, physM v = some g → some g ≠ row) : MapOwn w' base v agg sz k vk es := by
  have hlt : ∀ g, physM v = some g → base ≤ g ∧ g < w.heap.size := fun g => h.lt
  obtain ⟨h0, r, rfl, h1, h2⟩ := h
  exact ⟨h0, r, rfl, h1, by rw [hg.block r (hlt r rfl).2 (hne r rfl)]; exact h2⟩

def VecOk (base : Nat) (ρ : Env) (w : World) (i : Nat) : Blk → Prop
  | .vec own e k st n l => match own with
    | true => VecOwm w base e st (ρ.vec i) n (l.map (Value.int k))
    | false => VecRead w base st (ρ.vec i) n (l.map (Value.int k))
  | .view p st off n => VecPart st (ρ.vec p) off (ρ.vec i) n
  | .nz p b => NilIs (ρ.vec p) b
  | .mp agg sz k vk es => MapOwn w base (ρ.vec i) agg sz k vk es
  | _ => True

/-- The block of the world that is a block's own. -/
def phys (ρ : Env) (i : Nat) : Blk → Option Nat
  | .st own _ => match own with
    | true => some (ρ.blk i)
    | false => none
  | .dyn own _ _ => match own with
    | true => some (ρ.blk i)
    | false => none
  | .vec own _ _ _ _ _ => match own with
    | true => physV (ρ.vec i)
    | false => none
  | .view _ _ _ _ => none
  | .nz _ _ => none
  | .mp _ _ _ _ _ => physM (ρ.vec i)
  | .gone => none

structure BlkOk (base : Nat) (ρ : Env) (w : World) (i : Nat) (b : Blk) : Prop where
  atoms : b.atoms
  cell : ∀ j v, (b.cells ρ)[j]? = some v → w.cell? ⟨ρ.blk i, ρ.off i + j, none⟩ = some v
  mine : b.own = true → base ≤ ρ.blk i ∧ ρ.blk i < w.heap.size ∧ ∀ j, j < (b.cells ρ).length → w.frozen? ⟨ρ.blk i, ρ.off i + j, none⟩ = false
  theirs : b.own = false → b.placed = true → ρ.blk i < base
  vec : VecOk base ρ w i b

theorem phys_own {ρ : Env} {i : Nat} {b : Blk} (h : b.own = true) : phys ρ i b = some (ρ.blk i) := by
  cases b <;> simp [Blk.own] at h <;> subst h <;> rfl
theorem physV_row {g n c : Nat} (h : 0 < c) : physV (.slice (some ⟨g, 0, none⟩) n c) = some g := by
  cases c with
  | zero => omega
  | succ c => rfl
theorem VecOwn.phys_lt {w : World} {base : Nat} {e : TypeId} {st : Nat} {v : Value} {n : Nat} {xs : List Value} (h : VecOwn w base e st v n xs) {g : Nat} (hg : physV v = some g) : base ≤ g ∧ g < w.heap.size ∧ v.ownBlock = some g := by
  rcases h with ⟨ao, rfl, -, -⟩ | ⟨g', c, -, rfl, ho⟩
  · cases ao <;> cases hg
  · cases c with
    | zero => cases hg
    | succ c =>
      cases hg
      have := ho.lt g' rfl
      exact ⟨this.1, this.2, rfl⟩
theorem VecOwm.phys_lt {w : World} {base : Nat} {e : TypeId} {st : Nat} {v : Value} {n : Nat} {xs : List Value} (h : VecOwm w base e st v n xs) {g : Nat} (hg : physV v = some g) : base ≤ g ∧ g < w.heap.size := by
  rcases h with h | ⟨-, g', c, hc, rfl, h1, -, -, cur, el, h2, -⟩
  · have := h.phys_lt hg; exact ⟨this.1, this.2.1⟩
  · rw [physV_row hc] at hg
    cases hg
    exact ⟨h1, (Array.getElem?_eq_some_iff.1 h2).1⟩
theorem BlkOk.phys_lt {base : Nat} {ρ : Env} {w : World} {i : Nat} {b : Blk} (h : BlkOk base ρ w i b) {g : Nat} (hg : phys ρ i b = some g) : base ≤ g ∧ g < w.heap.size := by
  cases b with
  | st o ps =>
    cases o with
    | true => cases hg; have := h.mine rfl; exact ⟨this.1, this.2.1⟩
    | false => cases hg
  | dyn o k l =>
    cases o with
    | true => cases hg; have := h.mine rfl; exact ⟨this.1, this.2.1⟩
    | false => cases hg
  | vec o e k st n l =>
    cases o with
    | true => exact VecOwm.phys_lt (show VecOwm w base e st (ρ.vec i) n (l.map (Value.int k)) from h.vec) hg
    | false => cases hg
  | view q st o n => cases hg
  | nz q b => cases hg
  | mp a z k v es => exact MapOwn.lt (show MapOwn w base (ρ.vec i) a z k v es from h.vec) hg
  | gone => cases hg

/-- A block that holds an object, and is no block that is told of. -/
def Keep (ρ : Env) (m : Mem) (w : World) (D : Nat) (o : Obj) : Prop := w.heap[D]? = some o ∧ ∀ i b, look m i = some b → phys ρ i b ≠ some D
abbrev noCalls : Obj := .deferred (some [])
def markOf (D : Nat) : Deferred := { target := .collected D, args := #[] }
/-- What is put off: marks of ranges over functions. -/
def Dfs (Γ : Gam) (ρ : Env) (m : Mem) (ds : List Deferred) (w : World) : Prop :=
  (∃ Ds : List Nat, ds = Ds.map markOf ∧ Ds.Nodup ∧ ∀ D ∈ Ds, Γ.w0.heap.size ≤ D ∧ (∀ o, ¬ Γ.kp D o) ∧ Keep ρ m w D noCalls) ∧ (∀ D o, Γ.kp D o → Keep ρ m w D o) ∧ Γ.sz ≤ w.heap.size
theorem Dfs.map {Γ : Gam} {ρ ρ' : Env} {m m' : Mem} {ds : List Deferred} {w w' : World} (h : Dfs Γ ρ m ds w) (hs : w.heap.size ≤ w'.heap.size) (f : ∀ D o, Keep ρ m w D o → Keep ρ' m' w' D o) : Dfs Γ ρ' m' ds w' := by
  obtain ⟨⟨Ds, h1, h2, h3⟩, h4, h5⟩ := h
  exact ⟨⟨Ds, h1, h2, fun D hD => ⟨(h3 D hD).1, (h3 D hD).2.1, f D _ (h3 D hD).2.2⟩⟩, fun D o hD => f D o (h4 D o hD), Nat.le_trans h5 hs⟩
theorem Dfs.none {Γ : Gam} {ρ : Env} {m : Mem} {w : World} (h : ∀ D o, Γ.kp D o → Keep ρ m w D o) (hs : Γ.sz ≤ w.heap.size) : Dfs Γ ρ m [] w := ⟨⟨[], rfl, List.nodup_nil, fun D hD => by cases hD⟩, h, hs⟩

structure Rel (Γ : Gam) (ρ : Env) (S : St) (a : Act) (w : World) : Prop where
  tm : a.tmps = (denL ρ S.tmps).toArray
  df : Dfs Γ ρ S.mem a.defers w
  mem : ∀ i b, look S.mem i = some b → BlkOk Γ.w0.heap.size ρ w i b ∧ b.ids S.has
  dj : ∀ i j b c, look S.mem i = some b → look S.mem j = some c → i ≠ j → ∀ g, phys ρ i b = some g → phys ρ j c = some g → False
  below : Below Γ.w0.heap.size Γ.w0 w
  pin : Pin Γ.pinned Γ.ρ0 ρ
  nx : Γ.n0 ≤ S.next
  wfT : ∀ v ∈ S.tmps, wf v
  idT : idsL S.has S.tmps

/-- A frame's slot, symbolically. -/
def getS : List SV → Nat → SV
  | [], _ => .raw undef
  | x :: l, i => match i with
    | 0 => x
    | i + 1 => getS l i

theorem getS_eq (l : List SV) (i : Nat) : getS l i = l.getD i (.raw undef) := by
  induction l generalizing i with
  | nil => rfl
  | cons x l ih => cases i with
    | zero => rfl
    | succ i => simp [getS, ih]

def evS (S : St) : Operand → SV
  | .tmp t => getS S.tmps t
  | .const v => match v with
    | .int k n => .lit k n
    | .bool b => match b with
      | true => .tt
      | false => .ff
    | v => .raw v
  | .global g => match look S.mem (gid g) with
    | some _ => .ptr (gid g) 0 (.lit 0)
    | none => .raw (.pointer (some ⟨g, 0, none⟩))
  | .func f => .fn f []

def GlobOk (Γ : Gam) : Prop := ∀ g, Γ.ρ0.blk (gid g) = g ∧ Γ.ρ0.off (gid g) = 0

theorem getD_denL (ρ : Env) (l : List SV) (t : Nat) : (denL ρ l).toArray.getD t undef = (l.getD t (.raw undef)).den ρ := by
  rw [denL_eq]
  simp only [List.getD, Array.getD]
  by_cases h : t < l.length
  · simp [h]
  · simp [h, SV.den]

theorem Rel.ev {Γ : Gam} {ρ : Env} {S : St} {a : Act} {w : World} (h : Rel Γ ρ S a w) (hg : GlobOk Γ) (x : Operand) : a.eval x = (evS S x).den ρ := by
  cases x with
  | tmp t => simp only [Act.eval, evS, h.tm, getS_eq]; exact getD_denL ρ S.tmps t
  | const v =>
    cases v <;> try rfl
    rename_i b
    cases b <;> rfl
  | global g =>
    simp only [Act.eval, evS]
    split
    · have h1 := h.pin.blk (gid g) (.inr (by simp [gid]))
      have h2 := h.pin.off (gid g) (.inr (by simp [gid]))
      obtain ⟨h3, h4⟩ := hg g
      simp [SV.den, SN.den, h1, h2, h3, h4]
    · simp [SV.den]
  | func f => simp [Act.eval, evS, SV.den, denL]

theorem Rel.ev_ids {Γ : Gam} {ρ : Env} {S : St} {a : Act} {w : World} (h : Rel Γ ρ S a w) (x : Operand) : (evS S x).ids S.has := by
  cases x with
  | tmp t =>
    simp only [evS, getS_eq, List.getD]
    by_cases ht : t < S.tmps.length
    · simp only [ht, List.getElem?_eq_getElem, Option.getD_some]
      exact idsL_iff.1 h.idT _ (List.getElem_mem _)
    · simp [ht, SV.ids]
  | const v =>
    cases v <;> simp [evS, SV.ids]
    rename_i b
    cases b <;> simp [SV.ids]
  | global g =>
    simp only [evS]
    split
    · rename_i b hb
      exact ⟨by simp [St.has, hb], trivial⟩
    · simp [SV.ids]
  | func f => simp [evS, SV.ids, idsL]

theorem Rel.ev_wf {Γ : Gam} {ρ : Env} {S : St} {a : Act} {w : World} (h : Rel Γ ρ S a w) (x : Operand) : wf (evS S x) := by
  cases x with
  | tmp t =>
    simp only [evS, getS_eq, List.getD]
    by_cases ht : t < S.tmps.length
    · simp only [ht, List.getElem?_eq_getElem, Option.getD_some]
      exact h.wfT _ (List.getElem_mem _)
    · simp [ht, wf]
  | const v =>
    cases v <;> simp only [evS, wf]
    rename_i b
    cases b <;> simp only [wf]
  | global g => simp only [evS]; split <;> simp only [wf]
  | func f => simp only [evS, wf, wfL]

/-- A slot set. -/
def setS : List SV → Nat → SV → List SV
  | [], _, _ => []
  | x :: l, i, v => match i with
    | 0 => v :: l
    | i + 1 => x :: setS l i v

theorem setS_eq (l : List SV) (i : Nat) (v : SV) : setS l i v = l.set i v := by
  induction l generalizing i with
  | nil => rfl
  | cons x l ih => cases i <;> simp [setS, ih]

def St.put (S : St) (dst : Option Tmp) (v : SV) : St :=
  match dst with
  | some d => { S with tmps := setS S.tmps d v }
  | none => S

theorem St.put_mem (S : St) (dst : Option Tmp) (v : SV) : (S.put dst v).mem = S.mem := by cases dst <;> rfl
theorem St.put_next (S : St) (dst : Option Tmp) (v : SV) : (S.put dst v).next = S.next := by cases dst <;> rfl
theorem St.put_has (S : St) (dst : Option Tmp) (v : SV) : (S.put dst v).has = S.has := by funext i; simp [St.has, St.put_mem]

theorem denL_set (ρ : Env) (l : List SV) (i : Nat) (v : SV) : (denL ρ l).toArray.setIfInBounds i (v.den ρ) = (denL ρ (l.set i v)).toArray := by
  simp [denL_eq, List.map_set]

/-- A value put into its slot, the world as it was. -/
theorem Rel.put {Γ : Gam} {ρ : Env} {S : St} {a : Act} {w : World} (h : Rel Γ ρ S a w) (dst : Option Tmp) {v : SV} (hw : wf v) (hi : v.ids S.has) :
    Rel Γ ρ (S.put dst v) (a.put dst (v.den ρ)) w := by
  cases dst with
  | none => exact h
  | some d =>
    refine ⟨?_, h.df, ?_, h.dj, h.below, h.pin, h.nx, ?_, ?_⟩
    · simp only [Act.put, St.put, setS_eq, h.tm]; exact denL_set ρ S.tmps d v
    · exact h.mem
    · intro u hu
      simp only [St.put, setS_eq] at hu
      rcases List.mem_or_eq_of_mem_set hu with hu | rfl
      · exact h.wfT u hu
      · exact hw
    · simp only [St.put, setS_eq]
      refine idsL_iff.2 fun u hu => ?_
      rcases List.mem_or_eq_of_mem_set hu with hu | rfl
      · exact idsL_iff.1 h.idT u hu
      · exact hi

theorem Rel.next {Γ : Gam} {ρ : Env} {S : St} {a : Act} {w : World} (h : Rel Γ ρ S a w) {n : Nat} (hn : Γ.n0 ≤ n) : Rel Γ ρ { S with next := n } a w :=
  ⟨h.tm, h.df, h.mem, h.dj, h.below, h.pin, hn, h.wfT, h.idT⟩

/-! ### The world: new blocks, stores, draws -/
theorem heap_alloc_lt (w : World) (o : Obj) {k : Nat} (h : k < w.heap.size) : (w.heap.push o)[k]? = w.heap[k]? := by
  rw [Array.getElem?_push, if_neg (by omega)]

theorem cell_push_lt {w : World} {o : Obj} {p : Addr} (h : p.block < w.heap.size) : ({ w with heap := w.heap.push o } : World).cell? p = w.cell? p := by
  simp only [World.cell?]; rw [heap_alloc_lt _ _ h]

theorem frozen_push_lt {w : World} {o : Obj} {p : Addr} (h : p.block < w.heap.size) : ({ w with heap := w.heap.push o } : World).frozen? p = w.frozen? p := by
  simp only [World.frozen?]; rw [heap_alloc_lt _ _ h]

theorem cell_lt {w : World} {p : Addr} {v : Value} (h : w.cell? p = some v) : p.block < w.heap.size := by
  simp only [World.cell?] at h
  rcases Nat.lt_or_ge p.block w.heap.size with hl | hl
  · exact hl
  · rw [Array.getElem?_eq_none hl] at h; cases h

/-- A world that differs from another one in new blocks and draws alone. -/
structure Onto (w w' : World) : Prop where
  below : Below w.heap.size w w'

theorem grownBy_of_below {w w' : World} (hb : Below w.heap.size w w') (row : Option Nat) : w.grownBy w' row := ⟨hb.os, hb.tape, hb.output, hb.size, fun k hk _ => hb.block k hk⟩
theorem VecOwn.grown {w w' : World} {base : Nat} {e : TypeId} {st : Nat} {v : Value} {n : Nat} {xs : List Value} {row : Option Nat} (h : VecOwn w base e st v n xs) (hg : w.grownBy w' row) (hne : ∀ g, physV v = some g → some g ≠ row) : VecOwn w' base e st v n xs := by
  rcases h with h | ⟨g, c, hc, hv, ho⟩
  · exact .inl h
  · refine .inr ⟨g, c, hc, hv, ho.kept hg (.inr ?_)⟩
    rw [hv]
    exact hne g (by rw [hv]; exact physV_row hc)
theorem VecOwm.grown {w w' : World} {base : Nat} {e : TypeId} {st : Nat} {v : Value} {n : Nat} {xs : List Value} {row : Option Nat} (h : VecOwm w base e st v n xs) (hg : w.grownBy w' row) (hne : ∀ g, physV v = some g → some g ≠ row) : VecOwm w' base e st v n xs := by
  rcases h with h | ⟨he, g, c, hc, hv, h1, h2, h3, cur, el, h4, h5⟩
  · exact .inl (h.grown hg hne)
  · refine .inr ⟨he, g, c, hc, hv, h1, h2, h3, cur, el, ?_, h5⟩
    exact (hg.block g (Array.getElem?_eq_some_iff.1 h4).1 (hne g (by rw [hv]; exact physV_row hc))).trans h4
theorem VecOwn.of_owns {w : World} {base : Nat} {e : TypeId} {st : Nat} {v : Value} {n : Nat} {xs : List Value} (h : w.ownsRow base e st v n xs) : VecOwn w base e st v n xs := by
  have hl := h.1
  rcases h.2 with ⟨rfl, rfl⟩ | ⟨g, cap, cur, rfl, -, -, r1, -⟩
  · exact .inl ⟨none, rfl, rfl, List.eq_nil_of_length_eq_zero (by simpa using hl)⟩
  · by_cases hc : cap = 0
    · subst hc
      have hn : n = 0 := by omega
      subst hn
      exact .inl ⟨_, rfl, rfl, List.eq_nil_of_length_eq_zero (by simpa using hl)⟩
    · exact .inr ⟨g, cap, by omega, rfl, h⟩
theorem VecOk.onto {base : Nat} {ρ : Env} {w w' : World} {i : Nat} {b : Blk} (h : VecOk base ρ w i b) (hb : Below w.heap.size w w') : VecOk base ρ w' i b := by
  cases b with
  | vec o e k st n l =>
    cases o with
    | true => exact VecOwm.grown h (grownBy_of_below hb none) (fun g _ => by simp)
    | false =>
      obtain ⟨h1, a, c, h2, h3, h4⟩ := h
      refine ⟨h1, a, c, h2, h3, ?_⟩
      rcases h4 with h4 | ⟨g, o, e1, e2, e3⟩
      · exact .inl h4
      · exact .inr ⟨g, o, e1, e2, fun j u hj => by
          have := e3 j u hj
          rw [hb.cell (p := ⟨g, o + j, none⟩) (cell_lt this)]; exact this⟩
  | view q st o n => exact h
  | nz q b => exact h
  | mp a z k v es => exact MapOwn.kept h (grownBy_of_below hb none) (fun g _ => by simp)
  | _ => trivial

theorem BlkOk.onto {base : Nat} {ρ : Env} {w w' : World} {i : Nat} {b : Blk} (h : BlkOk base ρ w i b) (hb : Below w.heap.size w w') (_hbase : base ≤ w.heap.size) : BlkOk base ρ w' i b := by
  refine ⟨h.atoms, fun j v hj => ?_, fun ho => ?_, h.theirs, h.vec.onto hb⟩
  · have := h.cell j v hj
    rw [hb.cell (p := ⟨ρ.blk i, ρ.off i + j, none⟩) (cell_lt this)]; exact this
  · obtain ⟨h1, h2, h3⟩ := h.mine ho
    refine ⟨h1, Nat.lt_of_lt_of_le h2 hb.size, fun j hj => ?_⟩
    rw [hb.frozen (p := ⟨ρ.blk i, ρ.off i + j, none⟩) h2]; exact h3 j hj

theorem Rel.onto {Γ : Gam} {ρ : Env} {S : St} {a : Act} {w w' : World} (h : Rel Γ ρ S a w) (hb : Below w.heap.size w w') : Rel Γ ρ S a w' :=
  ⟨h.tm, h.df.map hb.size fun D _ hD => ⟨(hb.block D (by have := (Array.getElem?_eq_some_iff.1 hD.1).1; exact this)).trans hD.1, hD.2⟩, fun i b hl => ⟨(h.mem i b hl).1.onto hb h.below.size, (h.mem i b hl).2⟩, h.dj, h.below.trans (hb.mono h.below.size), h.pin, h.nx, h.wfT, h.idT⟩

def Env.set (ρ : Env) (i blk off cap : Nat) (vec : Value := undef) : Env :=
  ⟨fun j => if j = i then blk else ρ.blk j, fun j => if j = i then off else ρ.off j, fun j => if j = i then cap else ρ.cap j, ρ.junk, fun j => if j = i then vec else ρ.vec j⟩

theorem agree_set {ρ : Env} {i blk off cap : Nat} {vec : Value} {p : Nat → Prop} (h : ¬ p i) : Agree p ρ (ρ.set i blk off cap vec) :=
  have hne : ∀ j, p j → ¬ j = i := fun j hj e => h (by rw [← e]; exact hj)
  ⟨fun j hj => if_neg (hne j hj), fun j hj => if_neg (hne j hj), fun j hj => if_neg (hne j hj), fun j hj => if_neg (hne j hj), rfl⟩

theorem SV.ids_mono {p q : Nat → Prop} (h : ∀ i, p i → q i) : (v : SV) → v.ids p → v.ids q := by
  have hn : ∀ x : SN, x.ids p → x.ids q := fun x hx => by cases x <;> simp [SN.ids] at *; exact h _ hx
  intro v
  induction v using SV.rec (motive_2 := fun l => idsL p l → idsL q l) with
  | lit | int | tt | ff | bool | raw | ints | junk | str => intro _; simp [SV.ids]
  | sl i => intro hi; simp only [SV.ids] at *; exact h _ hi
  | vptr i o => intro hi; simp only [SV.ids] at *; exact h _ hi
  | mp i => intro hi; simp only [SV.ids] at *; exact h _ hi
  | ptr b o x => intro hi; simp only [SV.ids] at *; exact ⟨h _ hi.1, hn _ hi.2⟩
  | slice b o x l c => intro hi; simp only [SV.ids] at *; exact ⟨h _ hi.1, hn _ hi.2.1, hn _ hi.2.2.1, hn _ hi.2.2.2⟩
  | agg ps ih => intro hi; simp only [SV.ids] at *; exact ih hi
  | tup ps ih => intro hi; simp only [SV.ids] at *; exact ih hi
  | fn f cs ih => intro hi; simp only [SV.ids] at *; exact ih hi
  | nil => simp [idsL]
  | cons v vs ih ihs => rename_i hi; simp only [idsL] at *; exact ⟨ih hi.1, ihs hi.2⟩

theorem idsL_mono {p q : Nat → Prop} (h : ∀ i, p i → q i) {l : List SV} (hl : idsL p l) : idsL q l :=
  idsL_iff.2 fun v hv => SV.ids_mono h v (idsL_iff.1 hl v hv)

theorem Blk.ids_mono {p q : Nat → Prop} (h : ∀ i, p i → q i) {b : Blk} (hb : b.ids p) : b.ids q := by
  cases b with
  | st o ps => exact idsL_mono h hb
  | view q st o n => exact h _ hb
  | nz q b => exact h _ hb
  | _ => trivial

theorem phys_congr {ρ ρ' : Env} {i : Nat} (b : Blk) (h1 : ρ'.blk i = ρ.blk i) (h2 : ρ'.vec i = ρ.vec i) : phys ρ' i b = phys ρ i b := by
  cases b <;> simp only [phys, h1, h2]

/-- A block's description in a world that has grown, and changed in a row that is not its own. -/
theorem BlkOk.grown {base : Nat} {ρ : Env} {w w' : World} {i : Nat} {b : Blk} {row : Option Nat} (h : BlkOk base ρ w i b) (hg : w.grownBy w' row) (hr : ∀ g, row = some g → base ≤ g ∧ phys ρ i b ≠ some g) : BlkOk base ρ w' i b := by
  have hblk : b.placed = true → ∀ g, row = some g → ρ.blk i ≠ g := fun hp g e he => by
    obtain ⟨h1, h2⟩ := hr g e
    cases ho : b.own with
    | true => exact h2 (by rw [phys_own ho, he])
    | false => have := h.theirs ho hp; omega
  have hne : b.placed = true → some (ρ.blk i) ≠ row := fun hp e => hblk hp (ρ.blk i) e.symm rfl
  have hpl : ∀ (j : Nat) (v : Value), (b.cells ρ)[j]? = some v → b.placed = true := fun j v hj => by
    cases b with
    | st => rfl
    | dyn => rfl
    | vec => simp [Blk.cells] at hj
    | view => simp [Blk.cells] at hj
    | nz => simp [Blk.cells] at hj
    | mp => simp [Blk.cells] at hj
    | gone => simp [Blk.cells] at hj
  have hpo : b.own = true → b.placed = true := fun ho => by cases b <;> first | rfl | cases ho
  refine ⟨h.atoms, fun j v hj => ?_, fun ho => ?_, h.theirs, ?_⟩
  · have hc := h.cell j v hj
    exact hg.cell hc (hne (hpl j v hj))
  · obtain ⟨h1, h2, h3⟩ := h.mine ho
    refine ⟨h1, Nat.lt_of_lt_of_le h2 hg.size, fun j hj => ?_⟩
    rw [World.frozen?_of_block (a := ⟨ρ.blk i, ρ.off i + j, none⟩) (hg.block _ h2 (hne (hpo ho)))]
    exact h3 j hj
  · have hv := h.vec
    cases b with
    | vec o e k st n l =>
      cases o with
      | true =>
        have hv : VecOwm w base e st (ρ.vec i) n (l.map (Value.int k)) := hv
        show VecOwm w' base e st (ρ.vec i) n (l.map (Value.int k))
        exact VecOwm.grown hv hg fun g hp e => (hr g e.symm).2 hp
      | false =>
        obtain ⟨h1, a, c, h2, h3, h4⟩ := hv
        refine ⟨h1, a, c, h2, h3, ?_⟩
        rcases h4 with h4 | ⟨g, o, e1, e2, e3⟩
        · exact .inl h4
        · exact .inr ⟨g, o, e1, e2, fun j u hj => hg.cell (e3 j u hj) (fun e => by have := (hr g e.symm).1; omega)⟩
    | view q st o n => exact hv
    | nz q b => exact hv
    | mp a z k v es => exact MapOwn.kept hv hg (fun g hp e => (hr g e.symm).2 hp)
    | _ => trivial

def goneM (m : Mem) : Option Nat → Mem
  | some o => upd m o .gone
  | none => m

theorem look_goneM (m : Mem) (o : Option Nat) (j : Nat) : look (goneM m o) j = if o = some j then some .gone else look m j := by
  cases o with
  | none => simp [goneM]
  | some o => simp only [goneM, look_upd, Option.some.injEq]

theorem below_grown {base : Nat} {w0 w w' : World} {row : Option Nat} (h : Below base w0 w) (hb : base ≤ w.heap.size) (hg : w.grownBy w' row) (hr : ∀ g, row = some g → base ≤ g) : Below base w0 w' :=
  ⟨hg.os.trans h.os, hg.tape.trans h.tape, hg.output.trans h.output, Nat.le_trans h.size hg.size, fun k hk => (hg.block k (Nat.lt_of_lt_of_le hk hb) (fun e => by have := hr k e.symm; omega)).trans (h.block k hk)⟩

/-- **A new block; another one may go for it.** -/
theorem Rel.change {Γ : Gam} {ρ : Env} {S : St} {a : Act} {w w' : World} (h : Rel Γ ρ S a w) {i : Nat} {o : Option Nat} {b : Blk} {blk off cap : Nat} {vec : Value} {row : Option Nat} (hg : w.grownBy w' row)
    (hrow : ∀ g, row = some g → ∃ o' c, o = some o' ∧ look S.mem o' = some c ∧ phys ρ o' c = some g) (_ : ∀ o', o = some o' → S.has o')
    (hlk : look S.mem i = none) (hni : ¬ Γ.pinned i) (hok : BlkOk Γ.w0.heap.size (ρ.set i blk off cap vec) w' i b) (hid : b.ids S.has)
    (hph : ∀ g, phys (ρ.set i blk off cap vec) i b = some g → w.heap.size ≤ g ∨ row = some g) (n' : Nat) (hn : Γ.n0 ≤ n') :
    Rel Γ (ρ.set i blk off cap vec) { S with mem := upd (goneM S.mem o) i b, next := n' } a w' := by
  have hno : ¬ S.has i := by simp [St.has, hlk]
  have ha : Agree S.has ρ (ρ.set i blk off cap vec) := agree_set hno
  have hmono : ∀ j, S.has j → ({ S with mem := upd (goneM S.mem o) i b, next := n' } : St).has j := fun j hj => by
    simp only [St.has, look_upd, look_goneM]
    split
    · rfl
    · split
      · rfl
      · exact hj
  have hlook : ∀ j c, look (upd (goneM S.mem o) i b) j = some c → (j = i ∧ c = b) ∨ (j ≠ i ∧ o = some j ∧ c = .gone) ∨ (j ≠ i ∧ o ≠ some j ∧ look S.mem j = some c) := fun j c hl => by
    simp only [look_upd, look_goneM] at hl
    split at hl
    · rename_i e; exact .inl ⟨e.symm, (Option.some.inj hl).symm⟩
    · rename_i e
      split at hl
      · rename_i e'; exact .inr (.inl ⟨fun x => e x.symm, e', (Option.some.inj hl).symm⟩)
      · rename_i e'; exact .inr (.inr ⟨fun x => e x.symm, e', hl⟩)
  have hrb : ∀ g, row = some g → Γ.w0.heap.size ≤ g ∧ g < w.heap.size := fun g e => by
    obtain ⟨o', c, -, h2, h3⟩ := hrow g e
    exact (h.mem o' c h2).1.phys_lt h3
  have hph' : ∀ j c, j ≠ i → phys (ρ.set i blk off cap vec) j c = phys ρ j c := fun j c hj => phys_congr c (if_neg hj) (if_neg hj)
  have hK : ∀ D ob, Keep ρ S.mem w D ob → Keep (ρ.set i blk off cap vec) (upd (goneM S.mem o) i b) w' D ob := fun D ob hD => ⟨(hg.block D (Array.getElem?_eq_some_iff.1 hD.1).1 (fun e => by
      obtain ⟨o', c, h1, h2, h3⟩ := hrow D e.symm
      exact hD.2 o' c h2 h3)).trans hD.1, fun j c hl hp => by
    rcases hlook j c hl with ⟨rfl, rfl⟩ | ⟨hj, hoj, rfl⟩ | ⟨hj, hoj, hl⟩
    · rcases hph D hp with h1 | h1
      · have := (Array.getElem?_eq_some_iff.1 hD.1).1; omega
      · obtain ⟨o', c', h1', h2, h3⟩ := hrow D h1
        exact hD.2 o' c' h2 h3
    · cases hp
    · rw [hph' j c hj] at hp
      exact hD.2 j c hl hp⟩
  refine ⟨?_, h.df.map hg.size hK, ?_, ?_, below_grown h.below h.below.size hg (fun g e => (hrb g e).1), ?_, hn, h.wfT, idsL_mono hmono h.idT⟩
  · rw [h.tm, denL_agree ha _ h.idT]
  · intro j c hl
    rcases hlook j c hl with ⟨rfl, rfl⟩ | ⟨hj, hoj, rfl⟩ | ⟨hj, hoj, hl⟩
    · exact ⟨hok, Blk.ids_mono hmono hid⟩
    · exact ⟨⟨trivial, fun k v hk => (by cases hk), fun hh => (by cases hh), fun _ hh => (by cases hh), trivial⟩, trivial⟩
    · obtain ⟨hokj, hids⟩ := h.mem j c hl
      have hok' := hokj.grown hg (fun g e => ⟨(hrb g e).1, fun hp => by
        obtain ⟨o', c', h1, h2, h3⟩ := hrow g e
        exact h.dj o' j c' c h2 hl (fun x => hoj (by rw [← x]; exact h1)) g h3 hp⟩)
      have hc : c.cells (ρ.set i blk off cap vec) = c.cells ρ := Blk.cells_agree ha hids
      have e1 : (ρ.set i blk off cap vec).blk j = ρ.blk j := if_neg hj
      have e2 : (ρ.set i blk off cap vec).off j = ρ.off j := if_neg hj
      have e3 : (ρ.set i blk off cap vec).vec j = ρ.vec j := if_neg hj
      refine ⟨⟨hok'.atoms, ?_, ?_, ?_, ?_⟩, Blk.ids_mono hmono hids⟩
      · rw [hc, e1, e2]; exact hok'.cell
      · rw [hc, e1, e2]; exact hok'.mine
      · rw [e1]; exact hok'.theirs
      · have hv := hok'.vec
        cases c with
        | vec own e k st n l => simp only [VecOk, e3]; exact hv
        | nz q b =>
          have hq : (ρ.set i blk off cap vec).vec q = ρ.vec q := if_neg (fun x => by rw [x] at hids; exact hno hids)
          simp only [VecOk, hq]; exact hv
        | view q st o n =>
          have hq : (ρ.set i blk off cap vec).vec q = ρ.vec q := if_neg (fun x => by rw [x] at hids; exact hno hids)
          simp only [VecOk, e3, hq]; exact hv
        | mp a z k v es => simp only [VecOk, e3]; exact hv
        | _ => trivial
  · intro j k c d hj hk hne g hp hq
    rcases hlook j c hj with ⟨rfl, rfl⟩ | ⟨hji, hoj, rfl⟩ | ⟨hji, hoj, hlj⟩
    · rcases hlook k d hk with ⟨rfl, rfl⟩ | ⟨hki, hok', rfl⟩ | ⟨hki, hok', hlk'⟩
      · exact hne rfl
      · cases hq
      · rw [hph' k d hki] at hq
        rcases hph g hp with h1 | h1
        · have := (h.mem k d hlk').1.phys_lt hq; omega
        · obtain ⟨o', c', h2, h3, h4⟩ := hrow g h1
          exact h.dj o' k c' d h3 hlk' (fun x => hok' (by rw [← x]; exact h2)) g h4 hq
    · cases hp
    · rw [hph' j c hji] at hp
      rcases hlook k d hk with ⟨rfl, rfl⟩ | ⟨hki, hok', rfl⟩ | ⟨hki, hok', hlk'⟩
      · rcases hph g hq with h1 | h1
        · have := (h.mem j c hlj).1.phys_lt hp; omega
        · obtain ⟨o', c', h2, h3, h4⟩ := hrow g h1
          exact h.dj o' j c' c h3 hlj (fun x => hoj (by rw [← x]; exact h2)) g h4 hp
      · cases hq
      · rw [hph' k d hki] at hq
        exact h.dj j k c d hlj hlk' hne g hp hq
  · have hne : ∀ j, Γ.pinned j → ¬ j = i := fun j hj e => hni (by rw [← e]; exact hj)
    refine ⟨fun j hj => ?_, fun j hj => ?_, fun j hj => ?_, fun j hj => ?_⟩
    · exact (if_neg (hne j hj)).trans (h.pin.blk j hj)
    · exact (if_neg (hne j hj)).trans (h.pin.off j hj)
    · exact (if_neg (hne j hj)).trans (h.pin.cap j hj)
    · exact (if_neg (hne j hj)).trans (h.pin.vec j hj)

/-- A new block of the call's own. -/
theorem Rel.alloc {Γ : Gam} {ρ : Env} {S : St} {a : Act} {w w' : World} (h : Rel Γ ρ S a w) {i : Nat} {b : Blk} {cap : Nat} (hb : Below w.heap.size w w') (hlk : look S.mem i = none) (hni : ¬ Γ.pinned i)
    (hown : b.own = true) (hat : b.atoms) (hid : b.ids S.has) (hsz : w.heap.size < w'.heap.size)
    (hcell : ∀ j v, (b.cells ρ)[j]? = some v → w'.cell? ⟨w.heap.size, j, none⟩ = some v) (hfr : ∀ j, w'.frozen? ⟨w.heap.size, j, none⟩ = false) (n' : Nat) (hn : Γ.n0 ≤ n') :
    Rel Γ (ρ.set i w.heap.size 0 cap) { S with mem := upd S.mem i b, next := n' } a w' := by
  have hno : ¬ S.has i := by simp [St.has, hlk]
  have ha : Agree S.has ρ (ρ.set i w.heap.size 0 cap) := agree_set hno
  have hcells : b.cells (ρ.set i w.heap.size 0 cap) = b.cells ρ := Blk.cells_agree ha hid
  have e1 : (ρ.set i w.heap.size 0 cap).blk i = w.heap.size := if_pos rfl
  have e2 : (ρ.set i w.heap.size 0 cap).off i = 0 := if_pos rfl
  refine h.change (o := none) (row := none) (grownBy_of_below hb none) (fun g e => by cases e) (fun o' e => by cases e) hlk hni ⟨hat, fun k v hk => ?_, fun _ => ?_, fun hf => (by rw [hown] at hf; cases hf), ?_⟩ hid (fun g hp => ?_) n' hn
  · rw [hcells] at hk
    rw [e1, e2, Nat.zero_add]; exact hcell k v hk
  · rw [e1, e2]
    exact ⟨h.below.size, hsz, fun k _ => by rw [Nat.zero_add]; exact hfr k⟩
  · cases b <;> first | trivial | cases hown
  · rw [phys_own hown, e1] at hp
    cases hp
    exact .inl (Nat.le_refl _)
end Go.Sx

/- The symbolic layer, part D: stores and loads in the world. -/
namespace Go.Sx
open Go.RowKit (Below)

theorem setCell_heap_ne (w : World) (a : Addr) (u : Value) {k : Nat} (h : k ≠ a.block) : (w.setCell a u).heap[k]? = w.heap[k]? := by
  simp only [World.setCell, Array.getElem?_modify]
  rw [if_neg (Ne.symm h)]

theorem setCell_size (w : World) (a : Addr) (u : Value) : (w.setCell a u).heap.size = w.heap.size := by simp [World.setCell]

theorem setCell_cell (w : World) (b o : Nat) (u v : Value) (h : w.cell? ⟨b, o, none⟩ = some v) (p : Addr) :
    (w.setCell ⟨b, o, none⟩ u).cell? p = if p = ⟨b, o, none⟩ then some u else w.cell? p := by
  simp only [World.cell?] at h
  split at h
  · rename_i c e f hb
    simp at h
    have hlt : o < c.size := by
      rcases Nat.lt_or_ge o c.size with hl | hl
      · exact hl
      · rw [Array.getElem?_eq_none hl] at h; cases h
    by_cases hp : p.block = b
    · obtain ⟨pb, po, ps⟩ := p
      simp only at hp; subst hp
      simp only [World.cell?, World.setCell, Array.getElem?_modify, hb, if_true, Option.map_some]
      cases ps with
      | some s => simp
      | none =>
        simp only [Option.isSome_none, Bool.false_eq_true, if_false, Addr.mk.injEq, true_and, and_true]
        by_cases ho : po = o
        · subst ho; simp [hlt]
        · rw [if_neg ho, Array.getElem?_setIfInBounds_ne (Ne.symm ho)]
    · have hne : p ≠ ⟨b, o, none⟩ := fun e => hp (by rw [e])
      rw [if_neg hne]
      simp only [World.cell?]
      rw [setCell_heap_ne _ _ _ hp]
  · cases h

theorem setCell_frozen (w : World) (b o : Nat) (u : Value) (p : Addr) : (w.setCell ⟨b, o, none⟩ u).frozen? p = w.frozen? p := by
  simp only [World.frozen?, World.setCell, Array.getElem?_modify]
  by_cases hp : b = p.block
  · rw [if_pos hp]
    cases hh : w.heap[p.block]? with
    | none => simp
    | some o' => cases o' <;> simp
  · rw [if_neg hp]

/-- What many stores in a row have done. -/
structure Stored (w : World) (b o : Nat) (vs : List Value) (w' : World) : Prop where
  size : w'.heap.size = w.heap.size
  os : w'.os = w.os
  tape : w'.tape = w.tape
  output : w'.output = w.output
  block : ∀ k, k ≠ b → w'.heap[k]? = w.heap[k]?
  frozen : ∀ p, w'.frozen? p = w.frozen? p
  cell : ∀ p : Addr, w'.cell? p = if p.block = b ∧ p.spot = none ∧ o ≤ p.off ∧ p.off < o + vs.length then vs[p.off - o]? else w.cell? p

theorem run_storeCells (P : Program) : ∀ (vs : List Value) (b o i : Nat) (w : World), (∀ v ∈ vs, one v = true) →
    (∀ j, j < vs.length → ∃ u, w.cell? ⟨b, o + i + j, none⟩ = some u) → (∀ j, j < vs.length → w.frozen? ⟨b, o + i + j, none⟩ = false) →
    ∃ w', (storeCells ⟨b, o, none⟩ vs i).run P w = .ok () w' ∧ Stored w b (o + i) vs w'
  | [], b, o, i, w, _, _, _ => ⟨w, rfl, rfl, rfl, rfl, rfl, fun _ _ => rfl, fun _ => rfl, fun p => by rw [if_neg (by simp only [List.length_nil]; omega)]⟩
  | v :: vs, b, o, i, w, h1, hc, hf => by
    obtain ⟨u, hu⟩ := hc 0 (by simp)
    have hf0 := hf 0 (by simp)
    simp only [Nat.add_zero] at hu hf0
    have hadd : (Addr.add ⟨b, o, none⟩ i) = ⟨b, o + i, none⟩ := by
      unfold Addr.add; split
      · rename_i h; subst h; rfl
      · rfl
    have hcell := setCell_cell w b (o + i) v u hu
    obtain ⟨w', hr, hs⟩ := run_storeCells P vs b o (i + 1) (w.setCell ⟨b, o + i, none⟩ v) (fun x hx => h1 x (by simp [hx]))
      (fun j hj => by
        obtain ⟨u', hu'⟩ := hc (j + 1) (by simp; omega)
        refine ⟨u', ?_⟩
        rw [hcell, if_neg (by simp; omega), show o + (i + 1) + j = o + i + (j + 1) from by omega]; exact hu')
      (fun j hj => by
        rw [setCell_frozen, show o + (i + 1) + j = o + i + (j + 1) from by omega]; exact hf (j + 1) (by simp; omega))
    refine ⟨w', ?_, ?_⟩
    · have h1v := h1 v (by simp)
      have e : (storeCells ⟨b, o, none⟩ (v :: vs) i).run P w = (storeCells ⟨b, o, none⟩ vs (i + 1)).run P (w.setCell ⟨b, o + i, none⟩ v) := by
        show (Sem.bind (store (Addr.add ⟨b, o, none⟩ i) v) fun _ => storeCells ⟨b, o, none⟩ vs (i + 1)).run P w = _
        rw [hadd]
        cases v <;> simp [store, Sem.bind, Sem.run, hu, hf0, one] at h1v ⊢
      rw [e]; exact hr
    · refine ⟨hs.size.trans (setCell_size _ _ _), hs.os, hs.tape, hs.output, fun k hk => (hs.block k hk).trans (setCell_heap_ne _ _ _ hk), fun p => (hs.frozen p).trans (setCell_frozen _ _ _ _ _), fun p => ?_⟩
      rw [hs.cell p, hcell p]
      obtain ⟨pb, po, ps⟩ := p
      simp only [List.length_cons, Addr.mk.injEq]
      by_cases hb : pb = b
      · subst hb
        cases ps with
        | some s => simp
        | none =>
          simp only [true_and, and_true]
          by_cases hlo : o + (i + 1) ≤ po ∧ po < o + (i + 1) + vs.length
          · rw [if_pos hlo, if_pos (by omega)]
            obtain ⟨d, hd⟩ : ∃ d, po = o + (i + 1) + d := ⟨po - (o + (i + 1)), by omega⟩
            subst hd
            rw [show o + (i + 1) + d - (o + (i + 1)) = d from by omega, show o + (i + 1) + d - (o + i) = d + 1 from by omega]
            simp
          · rw [if_neg hlo]
            by_cases he : po = o + i
            · rw [if_pos he, if_pos (by omega)]; subst he; simp
            · rw [if_neg he, if_neg (by omega)]
      · simp [hb]

theorem run_loadCellsFrom (P : Program) (b o : Nat) (w : World) : ∀ (n i : Nat) (cs : List Value) (acc : Array Value), cs.length = n → (∀ j v, cs[j]? = some v → w.cell? ⟨b, o + i + j, none⟩ = some v) →
    (loadCellsFrom ⟨b, o, none⟩ i n acc).run P w = .ok (acc ++ cs.toArray) w
  | 0, i, cs, acc, hl, _ => by
    have : cs = [] := by cases cs <;> simp_all
    subst this
    simp [loadCellsFrom, pure]
  | n + 1, i, cs, acc, hl, hc => by
    match cs, hl with
    | c :: cs', hl =>
      have h0 := hc 0 c (by simp)
      simp only [Nat.add_zero] at h0
      have hadd : (Addr.add ⟨b, o, none⟩ i) = ⟨b, o + i, none⟩ := by
        unfold Addr.add; split
        · rename_i h; subst h; rfl
        · rfl
      have ih := run_loadCellsFrom P b o w n (i + 1) cs' (acc.push c) (by simpa using hl) (fun j v hj => by
        have := hc (j + 1) v (by simpa using hj)
        rw [show o + (i + 1) + j = o + i + (j + 1) from by omega]; exact this)
      have e : (loadCellsFrom ⟨b, o, none⟩ i (n + 1) acc).run P w = (loadCellsFrom ⟨b, o, none⟩ (i + 1) n (acc.push c)).run P w := by
        show (Sem.bind (load (Addr.add ⟨b, o, none⟩ i)) fun v => loadCellsFrom ⟨b, o, none⟩ (i + 1) n (acc.push v)).run P w = _
        rw [hadd]
        simp [load, Sem.bind, Sem.run, h0]
      rw [e, ih]; simp

theorem run_loadCells (P : Program) (b o : Nat) (w : World) {n : Nat} {cs : List Value} (hl : cs.length = n) (hc : ∀ j v, cs[j]? = some v → w.cell? ⟨b, o + j, none⟩ = some v) :
    (loadCells ⟨b, o, none⟩ n).run P w = .ok cs.toArray w := by
  have := run_loadCellsFrom P b o w n 0 cs #[] hl (by simpa using hc)
  simpa [loadCells] using this

/-- Cells written into a block of the call's own. -/
theorem Rel.store {Γ : Gam} {ρ : Env} {S : St} {a : Act} {w w' : World} (h : Rel Γ ρ S a w) {i o : Nat} {b b' : Blk} {vs : List Value} (hl : look S.mem i = some b) (hown : b.own = true)
    (hp : Put (b.cells ρ) o vs (b'.cells ρ)) (hat : b'.atoms) (hown' : b'.own = b.own) (hid : b'.ids S.has) (hs : Stored w (ρ.blk i) (ρ.off i + o) vs w') :
    Rel Γ ρ { S with mem := upd S.mem i b' } a w' := by
  obtain ⟨hput, hle⟩ := hp
  have hhas : ∀ j, ({ S with mem := upd S.mem i b' } : St).has j ↔ S.has j := fun j => by
    simp only [St.has, look_upd]; split
    · rename_i e; subst e; simp [hl]
    · rfl
  have hbase := ((h.mem i b hl).1.mine hown).1
  have hgr : w.grownBy w' (some (ρ.blk i)) := ⟨hs.os, hs.tape, hs.output, by rw [hs.size]; exact Nat.le_refl _, fun k _ hk => hs.block k (fun e => hk (by rw [e]))⟩
  have hlen : (b'.cells ρ).length = (b.cells ρ).length := by rw [hput]; simp; omega
  have hpo : ∀ c : Blk, c.own = true → phys ρ i c = some (ρ.blk i) := fun c hc => phys_own hc
  have hK : ∀ D ob, Keep ρ S.mem w D ob → Keep ρ (upd S.mem i b') w' D ob := fun D _ hD => ⟨(hgr.block D (Array.getElem?_eq_some_iff.1 hD.1).1 (fun e => hD.2 i b hl ((hpo b hown).trans e.symm))).trans hD.1, fun j c hj hp => by
    simp only [look_upd] at hj
    split at hj
    · rename_i e; subst e
      cases hj
      exact hD.2 i b hl ((hpo b hown).trans ((hpo b' (hown'.trans hown)).symm.trans hp))
    · exact hD.2 j c hj hp⟩
  refine ⟨h.tm, h.df.map hgr.size hK, ?_, ?_, ?_, h.pin, h.nx, h.wfT, idsL_mono (fun j hj => (hhas j).2 hj) h.idT⟩
  · intro j c hj
    simp only [look_upd] at hj
    split at hj
    · rename_i hij
      subst hij
      simp only [Option.some.injEq] at hj; subst hj
      obtain ⟨hok, _⟩ := h.mem i b hl
      obtain ⟨m1, m2, m3⟩ := hok.mine hown
      refine ⟨⟨hat, fun k v hk => ?_, fun _ => ⟨m1, by rw [hs.size]; exact m2, fun k hk => ?_⟩, fun hf => (by rw [hown', hown] at hf; cases hf), by cases b' <;> first | trivial | (rw [hown] at hown'; cases hown')⟩, Blk.ids_mono (fun j hj => (hhas j).2 hj) hid⟩
      · rw [hs.cell]
        simp only [true_and]
        rw [hput] at hk
        by_cases hr : o ≤ k ∧ k < o + vs.length
        · rw [if_pos (by omega)]
          rw [List.getElem?_append_left (by simp; omega), List.getElem?_append_right (by simp; omega)] at hk
          simp only [List.length_take] at hk
          rw [show k - min o (b.cells ρ).length = k - o from by omega] at hk
          rw [show ρ.off i + k - (ρ.off i + o) = k - o from by omega]; exact hk
        · rw [if_neg (by omega)]
          refine hok.cell k v ?_
          by_cases hlo : k < o
          · rw [List.getElem?_append_left (by simp; omega), List.getElem?_append_left (by simp; omega), List.getElem?_take_of_lt hlo] at hk; exact hk
          · rw [List.getElem?_append_right (by simp; omega)] at hk
            simp only [List.length_append, List.length_take, List.getElem?_drop] at hk
            rw [show o + vs.length + (k - (min o (b.cells ρ).length + vs.length)) = k from by omega] at hk; exact hk
      · rw [hs.frozen]; exact m3 k (by omega)
    · rename_i hij
      obtain ⟨hok, hids⟩ := h.mem j c hj
      refine ⟨hok.grown hgr (fun g e => ?_), Blk.ids_mono (fun j hj => (hhas j).2 hj) hids⟩
      cases e
      exact ⟨hbase, fun hp => h.dj i j b c hl hj hij _ (phys_own hown) hp⟩
  · intro j k c d hj hk hne g hp hq
    have fix : ∀ j c, look (upd S.mem i b') j = some c → ∃ c', look S.mem j = some c' ∧ phys ρ j c' = phys ρ j c := fun j c hj => by
      simp only [look_upd] at hj
      split at hj
      · rename_i e; subst e
        cases hj
        exact ⟨b, hl, by rw [phys_own hown, phys_own (hown'.trans hown)]⟩
      · exact ⟨c, hj, rfl⟩
    obtain ⟨c', h1, h2⟩ := fix j c hj
    obtain ⟨d', h3, h4⟩ := fix k d hk
    exact h.dj j k c' d' h1 h3 hne g (h2.trans hp) (h4.trans hq)
  · refine h.below.trans ⟨hs.os, hs.tape, hs.output, by rw [hs.size]; exact Nat.le_refl _, fun k hk => hs.block k ?_⟩
    omega
end Go.Sx

/- The symbolic layer, part E: operations that only compute. -/
namespace Go.Sx

/-- What is known of a type. -/
structure TyI where
  d : TypeDesc
  sz : Nat
  bytes : Nat
  z : SV
  pl : Bool

def TypeDesc.isAggB : TypeDesc → Bool
  | .struct _ => true
  | .array _ _ => true
  | _ => false

structure TyOk (P : Program) (t : TypeId) (i : TyI) : Prop where
  und : P.underlying t = some i.d
  info : ∃ j, P.info? t = some j ∧ j.size = i.sz ∧ j.bytes = i.bytes ∧ ∀ ρ, j.zero = some (i.z.den ρ)
  wf : wf i.z
  ids : ∀ p, i.z.ids p
  plain : i.pl = true → P.stoodInHeld t = false ∧ P.eqGuardType P.depth t = false ∧ ∀ fs, i.d = .struct fs → ∀ f ∈ fs.toList, f.name ≠ "_"

abbrev Tab := TypeId → Option TyI
def TabOk (P : Program) (tab : Tab) : Prop := ∀ t i, tab t = some i → TyOk P t i

section
variable {P : Program} {w : World}
theorem run_und {t : TypeId} {i : TyI} (h : TyOk P t i) : (underlying t).run P w = .ok i.d w := by
  simp [underlying, h.und]
theorem run_size {t : TypeId} {i : TyI} (h : TyOk P t i) : (sizeOf t).run P w = .ok i.sz w := by
  obtain ⟨j, h1, h2, -⟩ := h.info
  simp [sizeOf, typeInfo, h1, h2]
theorem run_isAgg {t : TypeId} {i : TyI} (h : TyOk P t i) : (isAgg t).run P w = .ok (TypeDesc.isAggB i.d) w := by
  simp only [isAgg, Sem.run_bind, run_und h, Result.andThen_ok]
  cases i.d <;> rfl
theorem run_zero {t : TypeId} {i : TyI} (h : TyOk P t i) (ρ : Env) : (zeroValue t).run P w = .ok (i.z.den ρ) w := by
  obtain ⟨j, h1, -, -, h2⟩ := h.info
  simp [zeroValue, typeInfo, h1, h2 ρ]
end

def numOf : SV → Option (Bool × IntKind × Int)
  | .lit k n => some (true, k, n)
  | .int k n => some (false, k, n)
  | _ => none

theorem numOf_den {v : SV} {b : Bool} {k : IntKind} {n : Int} (h : numOf v = some (b, k, n)) (ρ : Env) : v.den ρ = .int k n := by
  cases v <;> simp [numOf] at h <;> (obtain ⟨-, rfl, rfl⟩ := h; simp [SV.den])

def mkNum (lit : Bool) (k : IntKind) (n : Int) : SV :=
  match lit with
  | true => .lit k n
  | false => .int k n

theorem mkNum_den (lit : Bool) (k : IntKind) (n : Int) (ρ : Env) : (mkNum lit k n).den ρ = .int k n := by cases lit <;> simp [mkNum, SV.den]

def mkBool (lit : Bool) (b : Bool) : SV :=
  match lit with
  | true => match b with
    | true => .tt
    | false => .ff
  | false => .bool b

theorem mkBool_den (lit : Bool) (b : Bool) (ρ : Env) : (mkBool lit b).den ρ = .bool b := by cases lit <;> cases b <;> simp [mkBool, SV.den]

/-- A value that holds no place. -/
def plainV : SV → Prop
  | .lit _ _ | .int _ _ | .tt | .ff | .bool _ => True
  | _ => False

theorem plainV.wf {v : SV} (h : plainV v) : wf v := by cases v <;> first | (simp only [Sx.wf]; done) | exact h.elim
theorem plainV.ids {v : SV} (h : plainV v) (p : Nat → Prop) : v.ids p := by cases v <;> first | (simp [SV.ids]; done) | exact h.elim
theorem plain_num (b : Bool) (k : IntKind) (n : Int) : plainV (mkNum b k n) := by cases b <;> trivial
theorem plain_bool (b c : Bool) : plainV (mkBool b c) := by cases b <;> cases c <;> trivial

def bitsI (op : BinOp) (k : IntKind) (x y : Int) : Int :=
  match op with
  | .and => k.wrap (BitVec.ofInt k.bits x &&& BitVec.ofInt k.bits y).toNat
  | .or => k.wrap (BitVec.ofInt k.bits x ||| BitVec.ofInt k.bits y).toNat
  | .xor => k.wrap (BitVec.ofInt k.bits x ^^^ BitVec.ofInt k.bits y).toNat
  | _ => k.wrap (BitVec.ofInt k.bits x &&& ~~~ BitVec.ofInt k.bits y).toNat

def shlI (k : IntKind) (x y : Int) : Int := k.wrap (x * 2 ^ (min y.toNat k.bits))
def shrI (k : IntKind) (x y : Int) : Int := x.fdiv (2 ^ (min y.toNat k.bits))

/-- Two numbers. -/
def binN (op : BinOp) (lx : Bool) (k : IntKind) (x : Int) (ly : Bool) (k' : IntKind) (y : Int) : T SV :=
  match op with
  | .shl => match ly with
    | true => match decide (y < 0) with
      | false => .ret (mkNum lx k (shlI k x y))
      | true => .fail "shl"
    | false => .need (0 ≤ y) (.ret (.int k (shlI k x y)))
  | .shr => match ly with
    | true => match decide (y < 0) with
      | false => .ret (mkNum lx k (shrI k x y))
      | true => .fail "shr"
    | false => .need (0 ≤ y) (.ret (.int k (shrI k x y)))
  | op => match decide (k = k') with
    | false => .fail "binOp: kinds"
    | true => match op with
      | .add => .ret (mkNum (lx && ly) k (k.wrap (x + y)))
      | .sub => .ret (mkNum (lx && ly) k (k.wrap (x - y)))
      | .mul => .ret (mkNum (lx && ly) k (k.wrap (x * y)))
      | .and => .ret (mkNum (lx && ly) k (bitsI .and k x y))
      | .or => .ret (mkNum (lx && ly) k (bitsI .or k x y))
      | .xor => .ret (mkNum (lx && ly) k (bitsI .xor k x y))
      | .andNot => .ret (mkNum (lx && ly) k (bitsI .andNot k x y))
      | .quo => match ly with
        | true => match decide (y = 0) with
          | false => .ret (mkNum lx k (k.wrap (x.tdiv y)))
          | true => .fail "quo"
        | false => .need (¬ y = 0) (.ret (.int k (k.wrap (x.tdiv y))))
      | .rem => match ly with
        | true => match decide (y = 0) with
          | false => .ret (mkNum lx k (x.tmod y))
          | true => .fail "rem"
        | false => .need (¬ y = 0) (.ret (.int k (x.tmod y)))
      | .eql => .ret (mkBool (lx && ly) (x == y))
      | .neq => .ret (mkBool (lx && ly) (x != y))
      | .lss => .ret (mkBool (lx && ly) (decide (x < y)))
      | .leq => .ret (mkBool (lx && ly) (decide (x ≤ y)))
      | .gtr => .ret (mkBool (lx && ly) (decide (x > y)))
      | .geq => .ret (mkBool (lx && ly) (decide (x ≥ y)))
      | _ => .fail "binOp"

theorem binN_plain {op : BinOp} {lx : Bool} {k : IntKind} {x : Int} {ly : Bool} {k' : IntKind} {y : Int} {v : SV} (h : T.Reach (binN op lx k x ly k' y) v) : plainV v := by
  unfold binN at h
  repeat' split at h
  all_goals first
    | exact (T.reach_fail h).elim
    | (rw [T.reach_ret] at h; subst h; first | exact plain_num _ _ _ | exact plain_bool _ _)
    | (rw [T.reach_need, T.reach_ret] at h; obtain ⟨-, rfl⟩ := h; trivial)

theorem run_binN {P : Program} {w : World} {op : BinOp} {t : TypeId} {lx : Bool} {k : IntKind} {x : Int} {ly : Bool} {k' : IntKind} {y : Int} {v : SV} (h : T.Reach (binN op lx k x ly k' y) v) (ρ : Env) :
    (binOp op t (.int k x) (.int k' y)).run P w = .ok (v.den ρ) w := by
  unfold binN at h
  repeat' split at h
  all_goals first
    | exact (T.reach_fail h).elim
    | skip
  all_goals first
    | (rw [T.reach_need, T.reach_ret] at h; obtain ⟨hn, rfl⟩ := h)
    | (rw [T.reach_ret] at h; subst h)
  all_goals (try simp only [mkNum_den, mkBool_den, SV.den])
  all_goals (try (have hk := of_decide_eq_true (by assumption : decide (k = k') = true)))
  all_goals (try subst hk)
  all_goals (try simp [binOp, Op.intArith, Op.intDiv, Op.intBits, Op.intCmp, Op.shift, bitsI, shlI, shrI, *])
  all_goals (try omega)
  all_goals (intro hz; rename_i hd _; first | exact absurd hz (of_decide_eq_false hd) | (rename_i hd2; exact absurd hz (of_decide_eq_false hd2)) | simp_all)

/-- '&&', '||': of two truths, or of one and a constant. -/
def pickB (c : Bool) (a b : SV) : T SV :=
  match a, b with
  | .bool x, .bool y => .ret (.bool (cond c x y))
  | .bool x, .ff => .ret (.bool (c && x))
  | .tt, .bool y => .ret (.bool (c || y))
  | a, b => .ite c (.ret a) (.ret b)

theorem pickB_spec {c : Bool} {a b v : SV} (h : T.Reach (pickB c a b) v) : (∀ ρ, v.den ρ = if c then a.den ρ else b.den ρ) ∧ (wf a → wf b → wf v) ∧ (∀ p, a.ids p → b.ids p → v.ids p) := by
  unfold pickB at h
  split at h
  · rw [T.reach_ret] at h; subst h
    refine ⟨fun ρ => ?_, fun _ _ => by simp only [wf], fun p _ _ => by simp [SV.ids]⟩
    cases c <;> simp [SV.den]
  · rw [T.reach_ret] at h; subst h
    refine ⟨fun ρ => ?_, fun _ _ => by simp only [wf], fun p _ _ => by simp [SV.ids]⟩
    cases c <;> simp [SV.den]
  · rw [T.reach_ret] at h; subst h
    refine ⟨fun ρ => ?_, fun _ _ => by simp only [wf], fun p _ _ => by simp [SV.ids]⟩
    cases c <;> simp [SV.den]
  · rw [T.reach_ite] at h
    rcases h with ⟨rfl, h⟩ | ⟨rfl, h⟩
    · rw [T.reach_ret] at h; subst h; exact ⟨fun ρ => by simp, fun h _ => h, fun p h _ => h⟩
    · rw [T.reach_ret] at h; subst h; exact ⟨fun ρ => by simp, fun _ h => h, fun p _ h => h⟩

def mulN (i e : Nat) : Nat :=
  match e with
  | 1 => i
  | _ => i * e
theorem mulN_eq (i e : Nat) : mulN i e = i * e := by unfold mulN; split <;> simp

theorem SN.den_lit (n : Nat) (ρ : Env) : (SN.lit n).den ρ = n := rfl
theorem SN.den_opn (n : Nat) (ρ : Env) : (SN.opn n).den ρ = n := rfl

def addSN (x : SN) (o i : Nat) : Option (Nat × SN) :=   -- a literal place and an open one, moved by an open number
  match x with
  | .lit j => some (o + j, .opn i)
  | .opn j => some (o, .opn (j + i))
  | .var _ => none

/-- The address of an array's or a slice's element. -/
def indexS (tab : Tab) (t : TypeId) (x i : SV) : T SV :=
  match tab t with
  | none => .fail "indexAddr: type"
  | some ti => match ti.d, x with
    | .array n e, .ptr b o y => match tab e with
      | none => .fail "indexAddr: element"
      | some te => match i with
        | .lit _ j => match decide (0 ≤ j), Nat.blt j.toNat n with
          | true, true => .ret (.ptr b (o + j.toNat * te.sz) y)
          | _, _ => .fail "indexAddr: out of range"
        | .int _ j => .need (0 ≤ j ∧ j < n) (match addSN y o (mulN j.toNat te.sz) with
          | some (o', y') => .ret (.ptr b o' y')
          | none => .fail "indexAddr: at a capacity")
        | _ => .fail "indexAddr: index"
    | .slice e, .slice b o y len _ => match tab e with
      | none => .fail "indexAddr: element"
      | some te => match len with
        | .var _ => .fail "indexAddr: length"
        | .opn n => match i with
          | .lit _ j => .need (0 ≤ j ∧ j < n) (.ret (.ptr b (o + j.toNat * te.sz) y))
          | .int _ j => .need (0 ≤ j ∧ j < n) (match addSN y o (mulN j.toNat te.sz) with
            | some (o', y') => .ret (.ptr b o' y')
            | none => .fail "indexAddr: at a capacity")
          | _ => .fail "indexAddr: index"
        | .lit n => match i with
          | .lit _ j => match decide (0 ≤ j), Nat.blt j.toNat n with
            | true, true => .ret (.ptr b (o + j.toNat * te.sz) y)
            | _, _ => .fail "indexAddr: out of range"
          | .int _ j => .need (0 ≤ j ∧ j < n) (match addSN y o (mulN j.toNat te.sz) with
            | some (o', y') => .ret (.ptr b o' y')
            | none => .fail "indexAddr: at a capacity")
          | _ => .fail "indexAddr: index"
    | _, _ => .fail "indexAddr"

theorem add_none (b o n : Nat) : Addr.add ⟨b, o, none⟩ n = ⟨b, o + n, none⟩ := by
  unfold Addr.add; split
  · rename_i h; subst h; rfl
  · rfl

theorem addSN_spec {x : SN} {o i o' : Nat} {y' : SN} (h : addSN x o i = some (o', y')) (ρ : Env) : o' + y'.den ρ = o + x.den ρ + i ∧ ∀ p, y'.ids p := by
  unfold addSN at h
  split at h
  · simp at h; obtain ⟨rfl, rfl⟩ := h; simp [SN.den, SN.ids]
  · simp at h; obtain ⟨rfl, rfl⟩ := h; simp [SN.den, SN.ids]; omega
  · cases h

theorem run_index_array {P : Program} {w : World} {t e : TypeId} {n : Nat} {ti te : TyI} {b o : Nat} {i : Value} {k : IntKind} {j : Int} (ht : TyOk P t ti) (he : TyOk P e te) (hd : ti.d = .array n e) (hi : i = .int k j) (h0 : 0 ≤ j) (h1 : j < n) :
    (Instr.indexAt t (.pointer (some ⟨b, o, none⟩)) i).run P w = .ok (.pointer (some ⟨b, o + j.toNat * te.sz, none⟩)) w := by
  subst hi
  have hu : ∀ w, (underlying t).run P w = .ok (.array n e) w := fun w => by rw [run_und ht, hd]
  have hs : ∀ w, (sizeOf e).run P w = .ok te.sz w := fun w => run_size he
  simp [Instr.indexAt, asIntOf, hu, hs, Instr.sureAddr, h0, h1, add_none]

theorem run_index_slice {P : Program} {w : World} {t e : TypeId} {n c : Nat} {ti te : TyI} {b o : Nat} {i : Value} {k : IntKind} {j : Int} (ht : TyOk P t ti) (he : TyOk P e te) (hd : ti.d = .slice e) (hi : i = .int k j) (h0 : 0 ≤ j) (h1 : j < n) :
    (Instr.indexAt t (.slice (some ⟨b, o, none⟩) n c) i).run P w = .ok (.pointer (some ⟨b, o + j.toNat * te.sz, none⟩)) w := by
  subst hi
  have hu : ∀ w, (underlying t).run P w = .ok (.slice e) w := fun w => by rw [run_und ht, hd]
  have hs : ∀ w, (sizeOf e).run P w = .ok te.sz w := fun w => run_size he
  simp [Instr.indexAt, asIntOf, hu, hs, h0, h1, add_none]

theorem lit_range {j : Int} {n : Nat} (h0 : decide (0 ≤ j) = true) (h1 : Nat.blt j.toNat n = true) : 0 ≤ j ∧ j < n := by
  have a := of_decide_eq_true h0
  have b : j.toNat < n := Nat.le_of_ble_eq_true h1
  omega

theorem indexS_spec {P : Program} {tab : Tab} (hT : TabOk P tab) {t : TypeId} {x i v : SV} (h : T.Reach (indexS tab t x i) v) :
    wf v ∧ (∀ p, x.ids p → v.ids p) ∧ ∀ ρ w, (Instr.indexAt t (x.den ρ) (i.den ρ)).run P w = .ok (v.den ρ) w := by
  unfold indexS at h
  split at h
  · exact (T.reach_fail h).elim
  rename_i ti hti
  split at h
  · rename_i n e b o y hd
    split at h
    · exact (T.reach_fail h).elim
    rename_i te hte
    split at h
    · rename_i k j
      split at h
      · rename_i h0 h1
        rw [T.reach_ret] at h; subst h
        obtain ⟨h0, h1⟩ := lit_range h0 h1
        refine ⟨by simp only [wf], fun p hp => ?_, fun ρ w => ?_⟩
        · simp only [SV.ids] at *; exact hp
        · simp only [SV.den]
          rw [run_index_array (hT _ _ hti) (hT _ _ hte) hd rfl h0 h1]
          congr 4; omega
      · exact (T.reach_fail h).elim
    · rename_i k j
      rw [T.reach_need] at h
      obtain ⟨⟨h0, h1⟩, h⟩ := h
      split at h
      · rename_i o' y' ha
        rw [T.reach_ret] at h; subst h
        refine ⟨by simp only [wf], fun p hp => ?_, fun ρ w => ?_⟩
        · simp only [SV.ids] at *; exact ⟨hp.1, (addSN_spec ha ⟨id, id, id, fun _ => undef, fun _ => undef⟩).2 p⟩
        · simp only [SV.den]
          rw [run_index_array (hT _ _ hti) (hT _ _ hte) hd rfl h0 h1, (addSN_spec ha ρ).1, mulN_eq]
          congr 4; omega
      · exact (T.reach_fail h).elim
    · exact (T.reach_fail h).elim
  · rename_i e b o y len c hd
    split at h
    · exact (T.reach_fail h).elim
    rename_i te hte
    split at h
    · exact (T.reach_fail h).elim
    · rename_i n
      split at h
      · rename_i k j
        rw [T.reach_need, T.reach_ret] at h
        obtain ⟨⟨h0, h1⟩, rfl⟩ := h
        refine ⟨by simp only [wf], fun p hp => ?_, fun ρ w => ?_⟩
        · simp only [SV.ids] at *; exact ⟨hp.1, hp.2.1⟩
        · simp only [SV.den, SN.den_opn]
          rw [run_index_slice (hT _ _ hti) (hT _ _ hte) hd rfl h0 h1]
          congr 4; omega
      · rename_i k j
        rw [T.reach_need] at h
        obtain ⟨⟨h0, h1⟩, h⟩ := h
        split at h
        · rename_i o' y' ha
          rw [T.reach_ret] at h; subst h
          refine ⟨by simp only [wf], fun p hp => ?_, fun ρ w => ?_⟩
          · simp only [SV.ids] at *; exact ⟨hp.1, (addSN_spec ha ⟨id, id, id, fun _ => undef, fun _ => undef⟩).2 p⟩
          · have := (addSN_spec ha ρ).1
            simp only [SV.den, SN.den_opn]
            rw [run_index_slice (hT _ _ hti) (hT _ _ hte) hd rfl h0 h1, this, mulN_eq]
            congr 4; omega
        · exact (T.reach_fail h).elim
      · exact (T.reach_fail h).elim
    · rename_i n
      split at h
      · rename_i k j
        split at h
        · rename_i h0 h1
          rw [T.reach_ret] at h; subst h
          obtain ⟨h0, h1⟩ := lit_range h0 h1
          refine ⟨by simp only [wf], fun p hp => ?_, fun ρ w => ?_⟩
          · simp only [SV.ids] at *; exact ⟨hp.1, hp.2.1⟩
          · simp only [SV.den, SN.den_lit]
            rw [run_index_slice (hT _ _ hti) (hT _ _ hte) hd rfl h0 h1]
            congr 4; omega
        · exact (T.reach_fail h).elim
      · rename_i k j
        rw [T.reach_need] at h
        obtain ⟨⟨h0, h1⟩, h⟩ := h
        split at h
        · rename_i o' y' ha
          rw [T.reach_ret] at h; subst h
          refine ⟨by simp only [wf], fun p hp => ?_, fun ρ w => ?_⟩
          · simp only [SV.ids] at *; exact ⟨hp.1, (addSN_spec ha ⟨id, id, id, fun _ => undef, fun _ => undef⟩).2 p⟩
          · have := (addSN_spec ha ρ).1
            simp only [SV.den, SN.den_lit]
            rw [run_index_slice (hT _ _ hti) (hT _ _ hte) hd rfl h0 h1, this, mulN_eq]
            congr 4; omega
        · exact (T.reach_fail h).elim
      · exact (T.reach_fail h).elim
  · exact (T.reach_fail h).elim

/-- A part of a value: the cells from 'o' on, as a value of a type. -/
def partS (tab : Tab) (t : TypeId) (x : SV) (o : Nat) : T SV :=
  match tab t with
  | none => .fail "part: type"
  | some ti => (atomsOf x).bind fun ps => match TypeDesc.isAggB ti.d with
    | true => readSt ps o ti.sz false
    | false => match Nat.beq ti.sz 1 with
      | true => readSt ps o 1 true
      | false => .fail "part: size"

theorem idsL_mem {p : Nat → Prop} {l : List SV} {v : SV} (h : idsL p l) (hv : v ∈ l) : v.ids p := idsL_iff.1 h v hv

theorem gather_ids {p : Nat → Prop} {ps r : List SV} {c : Nat} (h : idsL p ps) (hg : gather ps c = some r) : idsL p r := by
  induction ps generalizing c r with
  | nil => cases c <;> simp [gather] at hg; subst hg; trivial
  | cons q ps ih =>
    simp only [idsL] at h
    cases c with
    | zero => simp [gather] at hg; subst hg; trivial
    | succ c' =>
      simp only [gather] at hg
      split at hg
      · split at hg
        · rename_i r' hr
          simp at hg; subst hg
          exact ⟨h.1, ih h.2 hr⟩
        · cases hg
      · split at hg
        · simp at hg; subst hg; simp [idsL, SV.ids]
        · cases hg

theorem skipTo_ids {p : Nat → Prop} {ps r : List SV} {c : Nat} (h : idsL p ps) (hg : skipTo ps c = some r) : idsL p r := by
  induction ps generalizing c r with
  | nil => cases c <;> simp [skipTo] at hg; subst hg; trivial
  | cons q ps ih =>
    have h' := h
    simp only [idsL] at h
    simp only [skipTo] at hg
    split at hg
    · exact ih h.2 hg
    · split at hg
      · simp at hg; subst hg; exact h'
      · split at hg
        · simp at hg; subst hg; exact ⟨by simp [SV.ids], h.2⟩
        · cases hg

theorem mkAgg_ids {p : Nat → Prop} {ps : List SV} (h : idsL p ps) : (mkAgg ps).ids p := by
  unfold mkAgg
  split
  · simp [SV.ids]
  · simpa [SV.ids] using h

theorem readWalk_ids {p : Nat → Prop} {ps : List SV} {o c : Nat} {v : SV} (h : idsL p ps) (hr : T.Reach (readWalk ps o c) v) : v.ids p := by
  unfold readWalk at hr
  split at hr
  · rename_i qs hq
    split at hr
    · rename_i rs hg
      rw [T.reach_ret] at hr; subst hr
      exact mkAgg_ids (gather_ids (skipTo_ids h hq) hg)
    · exact (T.reach_fail hr).elim
  · exact (T.reach_fail hr).elim

theorem readSt_ids {p : Nat → Prop} {ps : List SV} {o c : Nat} {sc : Bool} {v : SV} (h : idsL p ps) (hr : T.Reach (readSt ps o c sc) v) : v.ids p := by
  unfold readSt at hr
  split at hr
  · split at hr
    · rename_i bef q aft r hf
      obtain ⟨h1, -, -⟩ := findPart_spec hf
      split at hr
      · rw [T.reach_ret] at hr; subst hr; simp [SV.ids]
      · rw [T.reach_ret] at hr; subst hr
        exact idsL_mem h (by rw [h1]; simp)
    · exact (T.reach_fail hr).elim
  · split at hr
    · split at hr
      · split at hr <;> (rw [T.reach_ret] at hr; subst hr; simp [SV.ids])
      · exact readWalk_ids h hr
    · exact readWalk_ids h hr

theorem atomsOf_ids {p : Nat → Prop} {v : SV} {ps : List SV} (h : v.ids p) (hr : T.Reach (atomsOf v) ps) : idsL p ps := by
  cases v <;> simp only [atomsOf, T.reach_ret, T.reach_need] at hr
  case tup => exact (T.reach_fail hr).elim
  case junk => exact (T.reach_fail hr).elim
  case raw => obtain ⟨-, rfl⟩ := hr; simp [idsL, SV.ids]
  case agg => subst hr; simpa [SV.ids] using h
  all_goals (subst hr; simp_all [idsL, SV.ids])

theorem partS_spec {P : Program} {tab : Tab} (hT : TabOk P tab) {t : TypeId} {x v : SV} {o : Nat} (hx : wf x) (h : T.Reach (partS tab t x o) v) :
    wf v ∧ (∀ p, x.ids p → v.ids p) ∧ ∀ ρ w, (part t (x.den ρ).cells o).run P w = .ok (v.den ρ) w := by
  unfold partS at h
  split at h
  · exact (T.reach_fail h).elim
  rename_i ti hti
  rw [T.reach_bind] at h
  obtain ⟨ps, hps, h⟩ := h
  have hat := atomsOf_atoms hx hps
  have hu : ∀ w, (isAgg t).run P w = .ok (TypeDesc.isAggB ti.d) w := fun w => run_isAgg (hT _ _ hti)
  have hsz : ∀ w, (sizeOf t).run P w = .ok ti.sz w := fun w => run_size (hT _ _ hti)
  split at h
  · rename_i hagg
    have hg := fun ρ => got_st (ρ := ρ) (fun e => by cases e) hat h
    refine ⟨(hg ⟨id, id, id, fun _ => undef, fun _ => undef⟩).1, fun p hp => readSt_ids (atomsOf_ids hp hps) h, fun ρ w => ?_⟩
    obtain ⟨-, hg1, hg2⟩ := hg ρ
    have hc := atomsOf_cells (ρ := ρ) hps
    simp only [part, Sem.run_bind, hu, hagg, Result.andThen_ok, if_true, hsz, Sem.run_pure]
    rw [hg1, hc]
    congr 2
    apply Array.ext'
    simp [List.take_drop]
  · rename_i hagg
    split at h
    · have hg := fun ρ => got_st (ρ := ρ) (fun e => rfl) hat h
      refine ⟨(hg ⟨id, id, id, fun _ => undef, fun _ => undef⟩).1, fun p hp => readSt_ids (atomsOf_ids hp hps) h, fun ρ w => ?_⟩
      obtain ⟨-, hg1, -⟩ := hg ρ
      have hc := atomsOf_cells (ρ := ρ) hps
      rw [hc] at hg1
      simp only [part, Sem.run_bind, hu, hagg, Result.andThen_ok, Bool.false_eq_true, if_false]
      rw [← Array.getElem?_toList, hg1]; rfl
    · exact (T.reach_fail h).elim
end Go.Sx

/- The symbolic layer, part F: the pure operations, all of them in one function, and what it is worth. -/
namespace Go.Sx

theorem writeWalk_ids {p : Nat → Prop} {ps vs ps' : List SV} {o c : Nat} (h : idsL p ps) (hv : idsL p vs) (hr : T.Reach (writeWalk ps o c vs) ps') : idsL p ps' := by
  unfold writeWalk at hr
  split at hr
  · rename_i a ha
    split at hr
    · rename_i z hz
      rw [T.reach_ret] at hr; subst hr
      exact idsL_append.2 ⟨idsL_append.2 ⟨gather_ids h ha, hv⟩, skipTo_ids h hz⟩
    · exact (T.reach_fail hr).elim
  · exact (T.reach_fail hr).elim

theorem writeSt_ids {p : Nat → Prop} {ps vs ps' : List SV} {o c : Nat} (h : idsL p ps) (hv : idsL p vs) (hr : T.Reach (writeSt ps o c vs) ps') : idsL p ps' := by
  unfold writeSt at hr
  split at hr
  · rename_i bef k n l aft r hf
    obtain ⟨h1, -, -⟩ := findPart_spec hf
    split at hr
    · split at hr
      · split at hr
        · rw [T.reach_ret] at hr; subst hr
          rw [h1, idsL_append] at h
          exact idsL_append.2 ⟨h.1, by simp [SV.ids], h.2.2⟩
        · exact writeWalk_ids h hv hr
      · exact writeWalk_ids h hv hr
    · exact writeWalk_ids h hv hr
  · exact writeWalk_ids h hv hr

theorem writeOpn_ids {p : Nat → Prop} {ps vs ps' : List SV} {o i c : Nat} (h : idsL p ps) (hr : T.Reach (writeOpn ps o i c vs) ps') : idsL p ps' := by
  unfold writeOpn at hr
  split at hr
  · rename_i bef k n l aft r hf
    obtain ⟨h1, -, -⟩ := findPart_spec hf
    split at hr
    · split at hr
      · rw [T.reach_need, T.reach_ret] at hr
        obtain ⟨-, rfl⟩ := hr
        rw [h1, idsL_append] at h
        exact idsL_append.2 ⟨h.1, by simp [SV.ids], h.2.2⟩
      · exact (T.reach_fail hr).elim
    · exact (T.reach_fail hr).elim
  · exact (T.reach_fail hr).elim

theorem writeBlk_ids {p : Nat → Prop} {b b' : Blk} {vs : List SV} {o c : Nat} {x : SN} (h : b.ids p) (hv : idsL p vs) (hr : T.Reach (writeBlk b o x c vs) b') : b'.ids p := by
  unfold writeBlk at hr
  split at hr
  · split at hr
    all_goals (try exact (T.reach_fail hr).elim)
    all_goals (rw [T.reach_bind] at hr; obtain ⟨ps', h1, h2⟩ := hr; rw [T.reach_ret] at h2; subst h2)
    · exact writeSt_ids h hv h1
    · exact writeOpn_ids h h1
  · split at hr
    all_goals (try exact (T.reach_fail hr).elim)
    all_goals (rw [T.reach_bind] at hr; obtain ⟨ps', h1, h2⟩ := hr; rw [T.reach_ret] at h2; subst h2; trivial)
  · exact (T.reach_fail hr).elim
  · exact (T.reach_fail hr).elim
  · exact (T.reach_fail hr).elim
  · exact (T.reach_fail hr).elim
  · exact (T.reach_fail hr).elim

/-! ### Values built of parts -/
def fillS (place : Nat → Option (Nat × Nat)) (ps : List SV) : List (Nat × SV) → T (List SV)
  | [] => .ret ps
  | (i, v) :: rest => match place i with
    | none => .fail "build: no such part"
    | some (off, size) => (atomsOf v).bind fun vs => match Nat.beq (widthL vs) size with
      | true => (writeSt ps off size vs).bind fun ps' => fillS place ps' rest
      | false => .fail "build: a part of the wrong size"

theorem foldl_set (vs : List Value) : ∀ (cs : Array Value) (off k : Nat), off + k + vs.length ≤ cs.size →
    (vs.zipIdx k).foldl (fun cs (p : Value × Nat) => cs.setIfInBounds (off + p.2) p.1) cs = ((cs.toList.take (off + k)) ++ vs ++ cs.toList.drop (off + k + vs.length)).toArray := by
  induction vs with
  | nil => intro cs off k h; simp
  | cons v vs ih =>
    intro cs off k h
    simp only [List.length_cons] at h
    simp only [List.zipIdx_cons, List.foldl_cons]
    rw [ih _ off (k + 1) (by simp; omega)]
    congr 1
    obtain ⟨A⟩ := cs
    simp only [List.setIfInBounds_toArray, List.size_toArray] at h ⊢
    have hA : A = A.take (off + k) ++ A.drop (off + k) := (List.take_append_drop _ _).symm
    generalize hX : A.take (off + k) = X at hA
    generalize hY : A.drop (off + k) = Y at hA
    have hXl : X.length = off + k := by rw [← hX]; simp; omega
    cases Y with
    | nil => rw [hA] at h; simp at h; omega
    | cons y Y =>
      subst hA
      rw [← hXl, List.set_append_right _ _ (Nat.le_refl _), Nat.sub_self, List.set_cons_zero]
      rw [show off + (k + 1) = X.length + 1 from by omega]
      simp only [List.take_length_add_append, List.drop_append, List.append_assoc, List.length_cons]
      rw [List.drop_of_length_le (l := X) (by omega), List.drop_of_length_le (l := X) (by omega)]
      rw [show X.length + 1 + vs.length - X.length = vs.length + 1 from by omega, show X.length + (vs.length + 1) - X.length = vs.length + 1 from by omega]
      simp

theorem fill_part {cs : List Value} {v : Value} {off size : Nat} {cs' : List Value} (hs : v.cells.size = size) (hp : Put cs off v.cells.toList cs') (place : Nat → Option (Nat × Nat)) (i : Nat) (hi : place i = some (off, size)) (rest : List (Nat × Value)) :
    Instr.fill place cs.toArray ((i, v) :: rest) = Instr.fill place cs'.toArray rest := by
  obtain ⟨h1, h2⟩ := hp
  have hl : v.cells.toList.length = v.cells.size := by simp
  rw [hl] at h1 h2
  have hk : (v.cells.zipIdx.foldl (fun cs (x : Value × Nat) => cs.setIfInBounds (off + x.2) x.1) cs.toArray) = cs'.toArray := by
    rw [← Array.foldl_toList, Array.toList_zipIdx, foldl_set _ _ off 0 (by simp; omega), h1]
    simp
  simp only [Instr.fill, hi]
  rw [if_neg (by simp [hs]; omega)]
  congr 1

theorem fillS_spec {place : Nat → Option (Nat × Nat)} : ∀ {parts : List (Nat × SV)} {ps ps' : List SV}, (∀ q ∈ ps, isAtom q) → (∀ x ∈ parts, wf x.2) → T.Reach (fillS place ps parts) ps' →
    (∀ ρ, Instr.fill place (cellsL ρ ps).toArray (parts.map fun x => (x.1, x.2.den ρ)) = some (cellsL ρ ps').toArray) ∧ (∀ q ∈ ps', isAtom q) ∧ (∀ p, idsL p ps → (∀ x ∈ parts, x.2.ids p) → idsL p ps')
  | [], ps, ps', hs, _, h => by
    simp only [fillS, T.reach_ret] at h
    subst h
    exact ⟨fun ρ => rfl, hs, fun p h _ => h⟩
  | (i, v) :: rest, ps, ps', hs, hw, h => by
    simp only [fillS] at h
    split at h
    · exact (T.reach_fail h).elim
    · rename_i off size hi
      rw [T.reach_bind] at h
      obtain ⟨vs, hvs, h⟩ := h
      split at h
      · rename_i hsz
        have hsz := Nat.eq_of_beq_eq_true hsz
        rw [T.reach_bind] at h
        obtain ⟨ps1, h1, h2⟩ := h
        have hv := hw (i, v) (by simp)
        have hva := atomsOf_atoms hv hvs
        have hp := fun ρ => put_st (ρ := ρ) hs hva hsz h1
        obtain ⟨r1, r2, r3⟩ := fillS_spec (hp ⟨id, id, id, fun _ => undef, fun _ => undef⟩).2 (fun x hx => hw x (by simp [hx])) h2
        refine ⟨fun ρ => ?_, r2, fun p hps hids => ?_⟩
        · have hc := atomsOf_cells (ρ := ρ) hvs
          rw [← r1 ρ, List.map_cons]
          refine fill_part ?_ ?_ place i hi _
          · rw [← Array.length_toList, ← hc, cellsL_length hva, hsz]
          · rw [← hc]; exact (hp ρ).1
        · exact r3 p (writeSt_ids hps (atomsOf_ids (hids (i, v) (by simp)) hvs) h1) (fun x hx => hids x (by simp [hx]))
      · exact (T.reach_fail h).elim

def placesS (tab : Tab) (fs : Array Field) (i : Nat) : Option (Nat × Nat) :=
  match fs[i]? with
  | some f => match tab f.type with
    | some ti => some (f.offset, ti.sz)
    | none => none
  | none => none

def fieldsKnown (tab : Tab) (fs : Array Field) : Bool := fs.toList.all fun f => (tab f.type).isSome

def buildS (tab : Tab) (t : TypeId) (parts : List (Nat × SV)) : T SV :=
  match tab t with
  | none => .fail "build: type"
  | some ti => (atomsOf ti.z).bind fun z => match ti.d with
    | .struct fs => match fieldsKnown tab fs with
      | true => (fillS (placesS tab fs) z parts).bind fun ps => .ret (mkAgg ps)
      | false => .fail "build: a field's type"
    | .array _ e => match tab e with
      | some te => (fillS (fun i => some (i * te.sz, te.sz)) z parts).bind fun ps => .ret (mkAgg ps)
      | none => .fail "build: element"
    | _ => .fail "build: what"

theorem mapM_places {P : Program} {tab : Tab} (hT : TabOk P tab) (w : World) : ∀ (fs : List Field), (∀ f ∈ fs, (tab f.type).isSome = true) →
    (fs.mapM fun f => (do pure (f.offset, ← sizeOf f.type) : Sem (Nat × Nat))).run P w = .ok (fs.map fun f => (f.offset, ((tab f.type).map (·.sz)).getD 0)) w
  | [], _ => by simp
  | f :: fs, h => by
    obtain ⟨ti, hti⟩ := Option.isSome_iff_exists.1 (h f (by simp))
    have ih := mapM_places hT w fs (fun g hg => h g (by simp [hg]))
    rw [List.mapM_cons]
    simp only [Sem.run_bind, run_size (hT _ _ hti), Result.andThen_ok, Sem.run_pure, ih, List.map_cons, hti, Option.map_some, Option.getD_some]

theorem fill_congr {f g : Nat → Option (Nat × Nat)} (h : ∀ i, f i = g i) (cs : Array Value) (l : List (Nat × Value)) : Instr.fill f cs l = Instr.fill g cs l := by
  have : f = g := funext h
  rw [this]

theorem buildS_spec {P : Program} {tab : Tab} (hT : TabOk P tab) {t : TypeId} {parts : List (Nat × SV)} {v : SV} (hw : ∀ x ∈ parts, wf x.2) (h : T.Reach (buildS tab t parts) v) :
    wf v ∧ (∀ p, (∀ x ∈ parts, x.2.ids p) → v.ids p) ∧ ∀ ρ w, (Instr.build t (parts.map fun x => (x.1, x.2.den ρ)).toArray).run P w = .ok (v.den ρ) w := by
  unfold buildS at h
  split at h
  · exact (T.reach_fail h).elim
  rename_i ti hti
  have ok := hT _ _ hti
  rw [T.reach_bind] at h
  obtain ⟨z, hz, h⟩ := h
  have hza := atomsOf_atoms ok.wf hz
  have hzi : ∀ p, idsL p z := fun p => atomsOf_ids (ok.ids p) hz
  split at h
  · rename_i fs hd
    split at h
    · rename_i hk
      rw [T.reach_bind] at h
      obtain ⟨ps, hps, h⟩ := h
      rw [T.reach_ret] at h; subst h
      obtain ⟨f1, f2, f3⟩ := fillS_spec hza hw hps
      refine ⟨mkAgg_wf f2, fun p hp => mkAgg_ids (f3 p (hzi p) hp), fun ρ w => ?_⟩
      have hu : (underlying t).run P w = .ok (.struct fs) w := by rw [run_und ok, hd]
      have hall : ∀ f ∈ fs.toList, (tab f.type).isSome = true := fun f hf => List.all_eq_true.1 hk f hf
      have hm := mapM_places hT w fs.toList hall
      rw [← Array.toList_mapM] at hm
      have hpl : (fs.mapM fun f => (do pure (f.offset, ← sizeOf f.type) : Sem (Nat × Nat))).run P w = .ok (fs.map fun f => (f.offset, ((tab f.type).map (·.sz)).getD 0)) w := by
        simp only [Sem.run_map] at hm
        generalize (fs.mapM fun f => (do pure (f.offset, ← sizeOf f.type) : Sem (Nat × Nat))).run P w = r at hm ⊢
        cases r with
        | ok a w' =>
          simp only [Result.andThen_ok, Result.ok.injEq] at hm
          obtain ⟨hm, rfl⟩ := hm
          have : a = fs.map fun f => (f.offset, ((tab f.type).map (·.sz)).getD 0) := by apply Array.ext'; simpa using hm
          rw [this]
        | halt x w' => cases hm
      have hc := atomsOf_cells (ρ := ρ) hz
      have hfill := f1 ρ
      simp only [Instr.build, Sem.run_bind, run_zero ok ρ, Result.andThen_ok, hu, hpl]
      have hzc : (ti.z.den ρ).cells = (cellsL ρ z).toArray := by rw [hc]
      rw [hzc, fill_congr (g := placesS tab fs) (fun i => ?_), hfill]
      · simp [mkAgg_den]
      · simp only [placesS, Array.getElem?_map]
        cases hfi : fs[i]? with
        | none => rfl
        | some f =>
          have hmem : f ∈ fs.toList := by simpa using Array.mem_of_getElem? hfi
          obtain ⟨tf, htf⟩ := Option.isSome_iff_exists.1 (hall f hmem)
          simp [htf]
    · exact (T.reach_fail h).elim
  · rename_i n e hd
    split at h
    · rename_i te hte
      rw [T.reach_bind] at h
      obtain ⟨ps, hps, h⟩ := h
      rw [T.reach_ret] at h; subst h
      obtain ⟨f1, f2, f3⟩ := fillS_spec hza hw hps
      refine ⟨mkAgg_wf f2, fun p hp => mkAgg_ids (f3 p (hzi p) hp), fun ρ w => ?_⟩
      have hu : (underlying t).run P w = .ok (.array n e) w := by rw [run_und ok, hd]
      have hc := atomsOf_cells (ρ := ρ) hz
      have hfill := f1 ρ
      simp only [Instr.build, Sem.run_bind, run_zero ok ρ, Result.andThen_ok, hu, run_size (hT _ _ hte)]
      have hzc : (ti.z.den ρ).cells = (cellsL ρ z).toArray := by rw [hc]
      rw [hzc, hfill]
      simp [mkAgg_den]
    · exact (T.reach_fail h).elim
  · exact (T.reach_fail h).elim
end Go.Sx

/- The symbolic layer, part G: one operation. -/
namespace Go.Sx
open Go.RowKit (Below)

def convertS (tab : Tab) (src dst : TypeId) (x : SV) : T SV :=
  match tab src, tab dst with
  | some _, some td => match td.d, numOf x with
    | .int k, some (l, _, n) => .ret (mkNum l k (k.wrap n))
    | _, _ => .fail "convert"
  | _, _ => .fail "convert: type"

theorem convertS_spec {P : Program} {tab : Tab} (hT : TabOk P tab) {src dst : TypeId} {x v : SV} (h : T.Reach (convertS tab src dst x) v) :
    plainV v ∧ ∀ ρ w, (convert src dst (x.den ρ)).run P w = .ok (v.den ρ) w := by
  unfold convertS at h
  split at h
  · rename_i ts td hs hd
    split at h
    · rename_i k l k' n hk hn
      rw [T.reach_ret] at h; subst h
      refine ⟨plain_num _ _ _, fun ρ w => ?_⟩
      have h1 : (underlying src).run P w = .ok ts.d w := run_und (hT _ _ hs)
      have h2 : (underlying dst).run P w = .ok (.int k) w := by rw [run_und (hT _ _ hd), hk]
      rw [numOf_den hn, mkNum_den]
      simp [convert, h1, h2, Conv.intToInt]
    · exact (T.reach_fail h).elim
  · exact (T.reach_fail h).elim

def unS (op : UnOp) (x : SV) : T SV :=
  match op, x with
  | .not, .tt => .ret .ff
  | .not, .ff => .ret .tt
  | .not, .bool b => .ret (.bool (!b))
  | .neg, x => match numOf x with
    | some (l, k, n) => .ret (mkNum l k (k.wrap (0 - n)))
    | none => .fail "neg"
  | .xor, x => match numOf x with
    | some (l, k, n) => .ret (mkNum l k (bitsI .xor k (if k.signed then -1 else k.max) n))
    | none => .fail "xor"
  | _, _ => .fail "unOp"

theorem unS_spec {P : Program} {op : UnOp} {x v : SV} (h : T.Reach (unS op x) v) : plainV v ∧ ∀ ρ w, (Op.unary op (x.den ρ)).run P w = .ok (v.den ρ) w := by
  unfold unS at h
  split at h
  · rw [T.reach_ret] at h; subst h; exact ⟨trivial, fun ρ w => by simp [SV.den, Op.unary]⟩
  · rw [T.reach_ret] at h; subst h; exact ⟨trivial, fun ρ w => by simp [SV.den, Op.unary]⟩
  · rw [T.reach_ret] at h; subst h; exact ⟨trivial, fun ρ w => by simp [SV.den, Op.unary]⟩
  · split at h
    · rename_i l k n hn
      rw [T.reach_ret] at h; subst h
      refine ⟨plain_num _ _ _, fun ρ w => ?_⟩
      rw [numOf_den hn, mkNum_den]; simp [Op.unary, Op.intArith]
    · exact (T.reach_fail h).elim
  · split at h
    · rename_i l k n hn
      rw [T.reach_ret] at h; subst h
      refine ⟨plain_num _ _ _, fun ρ w => ?_⟩
      rw [numOf_den hn, mkNum_den]; simp [Op.unary, Op.intBits, bitsI]
    · exact (T.reach_fail h).elim
  · exact (T.reach_fail h).elim

/-- A bound of a slice expression that is written out. -/
def boundS (d : Nat) : Option SV → Option Nat
  | none => some d
  | some (.lit _ n) => match decide (0 ≤ n) with
    | true => some n.toNat
    | false => none
  | _ => none

/-- A slice of an array that lies in memory, its bounds written out. -/
def sliceS (tab : Tab) (t : TypeId) (x : SV) (lo hi : Option SV) : T SV :=
  match tab t with
  | none => .fail "slice: type"
  | some ti => match ti.d, x with
    | .array n e, .ptr b o y => match tab e, boundS 0 lo, boundS n hi with
      | some te, some l, some h => match Nat.ble h n, Nat.ble l h with
        | true, true => .ret (.slice b (match Nat.beq n l with
          | true => o
          | false => o + l * te.sz) y (.lit (h - l)) (.lit (n - l)))
        | _, _ => .fail "slice: out of range"
      | _, _, _ => .fail "slice: bounds"
    | _, _ => .fail "slice: what"

theorem run_bound {P : Program} {w : World} {d m : Nat} {x : Option SV} {n : Nat} {code : BoundsCode} (h : boundS d x = some n) (hm : n ≤ m) (ρ : Env) :
    (match x.map (SV.den ρ) with | some v => Instr.sliceBound v m code | none => pure d : Sem Nat).run P w = .ok n w := by
  unfold boundS at h
  split at h
  · simp at h; subst h; simp
  · rename_i k i
    split at h
    · rename_i h0
      have h0 := of_decide_eq_true h0
      simp at h; subst h
      simp only [Option.map_some, SV.den, Instr.sliceBound, asIntOf, Sem.run_bind, Sem.run_pure, Result.andThen_ok, Sem.run_ite]
      rw [if_pos (by omega)]
    · cases h
  · cases h

theorem sliceS_spec {P : Program} {tab : Tab} (hT : TabOk P tab) {t : TypeId} {x v : SV} {lo hi : Option SV} (h : T.Reach (sliceS tab t x lo hi) v) :
    wf v ∧ (∀ p, x.ids p → v.ids p) ∧ ∀ ρ w, (Instr.sliceAt t (x.den ρ) (lo.map (SV.den ρ)) (hi.map (SV.den ρ)) none).run P w = .ok (v.den ρ) w := by
  unfold sliceS at h
  split at h
  · exact (T.reach_fail h).elim
  rename_i ti hti
  split at h
  · rename_i n e b o y hd
    split at h
    · rename_i te l hh hte hl hhh
      split at h
      · rename_i h1 h2
        have h1 := Nat.le_of_ble_eq_true h1
        have h2 := Nat.le_of_ble_eq_true h2
        rw [T.reach_ret] at h; subst h
        refine ⟨by simp only [wf], fun p hp => ?_, fun ρ w => ?_⟩
        · simp only [SV.ids, SN.ids] at *; exact ⟨hp.1, hp.2, trivial, trivial⟩
        · have hu : ∀ w, (underlying t).run P w = .ok (.array n e) w := fun w => by rw [run_und (hT _ _ hti), hd]
          have hs : ∀ w, (sizeOf e).run P w = .ok te.sz w := fun w => run_size (hT _ _ hte)
          have b1 : (Instr.sliceBounds false n n (lo.map (SV.den ρ)) (hi.map (SV.den ρ)) none).run P w = .ok (l, hh, n) w := by
            have r1 := run_bound (P := P) (w := w) (code := .sliceAlen) hhh h1 ρ
            have r2 := run_bound (P := P) (w := w) (code := .sliceB) hl h2 ρ
            unfold Instr.sliceBounds
            simp only [Sem.run_bind, Sem.run_pure, Result.andThen_ok]
            cases hi with
            | none =>
              cases lo with
              | none => simp [boundS] at hhh hl ⊢; exact ⟨hl, hhh⟩
              | some z =>
                simp only [Option.map_some, Option.map_none] at r1 r2 ⊢
                simp [boundS] at hhh; subst hhh
                simp [r2]
            | some u =>
              cases lo with
              | none =>
                simp only [Option.map_some, Option.map_none] at r1 r2 ⊢
                simp [boundS] at hl; subst hl
                simp [r1]
              | some z =>
                simp only [Option.map_some] at r1 r2 ⊢
                simp [r1, r2]
          simp only [SV.den, Instr.sliceAt, Sem.run_bind, hu, Result.andThen_ok, Instr.sureAddr, Sem.run_pure, b1, hs, SN.den_lit, add_none]
          congr 4
          split
          · rename_i hnl
            subst hnl
            rw [Nat.beq_refl]
          · rename_i hnl
            rw [beq_no hnl]
            dsimp only
            congr 1; omega
      · exact (T.reach_fail h).elim
    · exact (T.reach_fail h).elim
  · exact (T.reach_fail h).elim

def extractS (x : SV) (i : Nat) : T SV :=
  match x with
  | .tup ps => match ps[i]? with
    | some v => .ret v
    | none => .fail "extract: no such part"
  | _ => .fail "extract: no tuple"

/-- 'len'. -/
def lenS (tab : Tab) (t : TypeId) (x : SV) : T SV :=
  match tab t with
  | none => .fail "len: type"
  | some ti => match ti.d, x with
    | .slice _, .slice _ _ _ len _ => match len with
      | .lit n => .ret (.lit .i64 n)
      | .opn n => .ret (.int .i64 n)
      | .var _ => .fail "len: a capacity"
    | .slice _, .raw (.slice _ n _) => .ret (.lit .i64 n)
    | .array n _, _ => .ret (.lit .i64 n)
    | .string, .raw (.string s) => .ret (.int .i64 s.size)
    | _, _ => .fail "len: of what"

theorem lenS_spec {P : Program} {tab : Tab} (hT : TabOk P tab) {t : TypeId} {x v : SV} (h : T.Reach (lenS tab t x) v) (ts : Array TypeId) (xs : Array Value) (ht : ts[0]? = some t) (T' : TypeId) :
    plainV v ∧ ∀ ρ w, xs[0]? = some (x.den ρ) → (Builtin.len_ ts T' xs).run P w = .ok (v.den ρ) w := by
  unfold lenS at h
  split at h
  · exact (T.reach_fail h).elim
  rename_i ti hti
  have hu : ∀ w, (underlying t).run P w = .ok ti.d w := fun w => run_und (hT _ _ hti)
  split at h
  · rename_i hd
    split at h
    · rw [T.reach_ret] at h; subst h
      exact ⟨trivial, fun ρ w hx => by simp [Builtin.len_, ht, hx, hu, hd, SV.den, SN.den, goInt]⟩
    · rw [T.reach_ret] at h; subst h
      exact ⟨trivial, fun ρ w hx => by simp [Builtin.len_, ht, hx, hu, hd, SV.den, SN.den, goInt]⟩
    · exact (T.reach_fail h).elim
  · rename_i hd
    rw [T.reach_ret] at h; subst h
    exact ⟨trivial, fun ρ w hx => by simp [Builtin.len_, ht, hx, hu, hd, SV.den, goInt]⟩
  · rename_i hd
    rw [T.reach_ret] at h; subst h
    exact ⟨trivial, fun ρ w hx => by simp [Builtin.len_, ht, hx, hu, hd, SV.den, goInt]⟩
  · rename_i hd
    rw [T.reach_ret] at h; subst h
    exact ⟨trivial, fun ρ w hx => by simp [Builtin.len_, ht, hx, hu, hd, SV.den, goInt]⟩
  · exact (T.reach_fail h).elim

/-- The address of a field. -/
def fieldAddrS (tab : Tab) (s : TypeId) (x : SV) (f : Nat) : T SV :=
  match tab s with
  | none => .fail "fieldAddr: type"
  | some ti => match ti.d, x with
    | .struct fs, .ptr b o y => match fs[f]? with
      | some fl => match tab fl.type with
        | some tf => match Nat.beq tf.sz 0 with
          | true => .fail "fieldAddr: a field of no size"
          | false => .ret (.ptr b (o + fl.offset) y)
        | none => .fail "fieldAddr: the field's type"
      | none => .fail "fieldAddr: no such field"
    | _, _ => .fail "fieldAddr: what"

theorem fieldAddrS_spec {P : Program} {tab : Tab} (hT : TabOk P tab) {s : TypeId} {x v : SV} {f : Nat} (h : T.Reach (fieldAddrS tab s x f) v) :
    wf v ∧ (∀ p, x.ids p → v.ids p) ∧ ∀ ρ w, (Instr.fieldAt s (x.den ρ) f).run P w = .ok (v.den ρ) w := by
  unfold fieldAddrS at h
  split at h
  · exact (T.reach_fail h).elim
  rename_i ti hti
  split at h
  · rename_i fs b o y hd
    split at h
    · rename_i fl hfl
      split at h
      · rename_i tf htf
        split at h
        · exact (T.reach_fail h).elim
        · rename_i hz
          have hz : tf.sz ≠ 0 := fun e => by rw [e] at hz; cases hz
          rw [T.reach_ret] at h; subst h
          refine ⟨by simp only [wf], fun p hp => by simpa only [SV.ids] using hp, fun ρ w => ?_⟩
          have hu : (underlying s).run P w = .ok (.struct fs) w := by rw [run_und (hT _ _ hti), hd]
          have hs : (sizeOf fl.type).run P w = .ok tf.sz w := run_size (hT _ _ htf)
          simp only [SV.den, Instr.fieldAt, Sem.run_bind, hu, Result.andThen_ok, hfl, Instr.sureAddr, Sem.run_pure, fieldPlace, hs, Sem.run_ite, hz, if_false, add_none]
          congr 4; omega
      · exact (T.reach_fail h).elim
    · exact (T.reach_fail h).elim
  · exact (T.reach_fail h).elim

/-- A field of a value. -/
def fieldS (tab : Tab) (s : TypeId) (x : SV) (f : Nat) : T SV :=
  match tab s with
  | none => .fail "field: type"
  | some ti => match ti.d, x with
    | .struct fs, .agg _ => match fs[f]? with
      | some fl => partS tab fl.type x fl.offset
      | none => .fail "field: no such field"
    | .struct fs, .ints _ _ _ => match fs[f]? with
      | some fl => partS tab fl.type x fl.offset
      | none => .fail "field: no such field"
    | _, _ => .fail "field: what"

theorem fieldS_spec {P : Program} {tab : Tab} (hT : TabOk P tab) {s : TypeId} {x v : SV} {f : Nat} (hx : wf x) (h : T.Reach (fieldS tab s x f) v) :
    wf v ∧ (∀ p, x.ids p → v.ids p) ∧ ∀ ρ w, (Instr.field s (x.den ρ) f).run P w = .ok (v.den ρ) w := by
  unfold fieldS at h
  split at h
  · exact (T.reach_fail h).elim
  rename_i ti hti
  split at h
  · rename_i fs ps hd
    split at h
    · rename_i fl hfl
      obtain ⟨h1, h2, h3⟩ := partS_spec hT hx h
      refine ⟨h1, h2, fun ρ w => ?_⟩
      have hu : (underlying s).run P w = .ok (.struct fs) w := by rw [run_und (hT _ _ hti), hd]
      have := h3 ρ w
      simp only [SV.den, Value.cells] at this
      simp [SV.den, Instr.field, hu, hfl, asAgg, this]
    · exact (T.reach_fail h).elim
  · rename_i fs k n l hd
    split at h
    · rename_i fl hfl
      obtain ⟨h1, h2, h3⟩ := partS_spec hT hx h
      refine ⟨h1, h2, fun ρ w => ?_⟩
      have hu : (underlying s).run P w = .ok (.struct fs) w := by rw [run_und (hT _ _ hti), hd]
      have := h3 ρ w
      simp only [SV.den, Value.cells] at this
      simp [SV.den, Instr.field, hu, hfl, asAgg, this]
    · exact (T.reach_fail h).elim
  · exact (T.reach_fail h).elim

/-- An element of an array that is a value: at a place that is written out, or of a list of numbers. -/
def indexVS (tab : Tab) (t : TypeId) (x i : SV) : T SV :=
  match tab t with
  | none => .fail "index: type"
  | some ti => match ti.d with
    | .array n e => match x with
      | .ints k m l => match i with
        | .lit _ j => match decide (0 ≤ j), Nat.blt j.toNat n with
          | true, true => match tab e with
            | some te => partS tab e x (j.toNat * te.sz)
            | none => .fail "index: element"
          | _, _ => .fail "index: out of range"
        | .int _ j => match tab e with
          | some te => match te.d with
            | .int _ => match Nat.beq te.sz 1, Nat.beq m n with
              | true, true => .need (0 ≤ j ∧ j < n) (.ret (.int k (l.getD j.toNat 0)))
              | _, _ => .fail "index: size"
            | _ => .fail "index: an open place"
          | none => .fail "index: element"
        | _ => .fail "index: what place"
      | .agg _ => match i with
        | .lit _ j => match decide (0 ≤ j), Nat.blt j.toNat n with
          | true, true => match tab e with
            | some te => partS tab e x (j.toNat * te.sz)
            | none => .fail "index: element"
          | _, _ => .fail "index: out of range"
        | _ => .fail "index: what place"
      | _ => .fail "index: of what"
    | _ => .fail "index: no array"

theorem run_indexV {P : Program} {w : World} {t e : TypeId} {n : Nat} {ti te : TyI} {cs : Array Value} {i : Value} {k : IntKind} {j : Int} (ht : TyOk P t ti) (he : TyOk P e te) (hd : ti.d = .array n e) (hi : i = .int k j) (h0 : 0 ≤ j) (h1 : j < n) :
    (Instr.index t (.agg cs) i).run P w = (part e cs (j.toNat * te.sz)).run P w := by
  subst hi
  have hu : ∀ w, (underlying t).run P w = .ok (.array n e) w := fun w => by rw [run_und ht, hd]
  have hs : ∀ w, (sizeOf e).run P w = .ok te.sz w := fun w => run_size he
  simp [Instr.index, asIntOf, hu, hs, h0, h1]

theorem indexVS_spec {P : Program} {tab : Tab} (hT : TabOk P tab) {t : TypeId} {x i v : SV} (hx : wf x) (h : T.Reach (indexVS tab t x i) v) :
    wf v ∧ (∀ p, x.ids p → v.ids p) ∧ ∀ ρ w, (Instr.index t (x.den ρ) (i.den ρ)).run P w = .ok (v.den ρ) w := by
  unfold indexVS at h
  split at h
  · exact (T.reach_fail h).elim
  rename_i ti hti
  split at h
  · rename_i n e hd
    split at h
    · rename_i k m l
      split at h
      · rename_i k' j
        split at h
        · rename_i h0 h1
          obtain ⟨h0, h1⟩ := lit_range h0 h1
          split at h
          · rename_i te hte
            obtain ⟨g1, g2, g3⟩ := partS_spec hT hx h
            refine ⟨g1, g2, fun ρ w => ?_⟩
            have := g3 ρ w
            simp only [SV.den, Value.cells] at this ⊢
            rw [run_indexV (hT _ _ hti) (hT _ _ hte) hd rfl h0 h1, this]
          · exact (T.reach_fail h).elim
        · exact (T.reach_fail h).elim
      · rename_i k' j
        split at h
        · rename_i te hte
          split at h
          · rename_i ke hke
            split at h
            · rename_i hs1 hmn
              have hs1 := Nat.eq_of_beq_eq_true hs1
              have hmn := Nat.eq_of_beq_eq_true hmn
              rw [T.reach_need, T.reach_ret] at h
              obtain ⟨⟨h0, h1⟩, rfl⟩ := h
              refine ⟨by simp only [wf], fun p _ => by simp [SV.ids], fun ρ w => ?_⟩
              simp only [SV.den]
              rw [run_indexV (hT _ _ hti) (hT _ _ hte) hd rfl h0 h1]
              have hagg : (isAgg e).run P w = .ok false w := by rw [run_isAgg (hT _ _ hte), hke]; rfl
              simp only [wf] at hx
              have hlt : j.toNat < l.length := by omega
              simp only [part, Sem.run_bind, hagg, Result.andThen_ok, Bool.false_eq_true, if_false, hs1, Nat.mul_one]
              have : (List.map (Value.int k) l).toArray[j.toNat]? = some (.int k (l.getD j.toNat 0)) := by simpa using cells_ints_getD (k := k) hlt
              rw [this]; rfl
            · exact (T.reach_fail h).elim
          · exact (T.reach_fail h).elim
        · exact (T.reach_fail h).elim
      · exact (T.reach_fail h).elim
    · rename_i ps
      split at h
      · rename_i k' j
        split at h
        · rename_i h0 h1
          obtain ⟨h0, h1⟩ := lit_range h0 h1
          split at h
          · rename_i te hte
            obtain ⟨g1, g2, g3⟩ := partS_spec hT hx h
            refine ⟨g1, g2, fun ρ w => ?_⟩
            have := g3 ρ w
            simp only [SV.den, Value.cells] at this ⊢
            rw [run_indexV (hT _ _ hti) (hT _ _ hte) hd rfl h0 h1, this]
          · exact (T.reach_fail h).elim
        · exact (T.reach_fail h).elim
      · exact (T.reach_fail h).elim
    · exact (T.reach_fail h).elim
  · exact (T.reach_fail h).elim
end Go.Sx

/- The symbolic layer, part H: '==' on arrays and structs of numbers. -/
namespace Go.Sx

def boolOf : SV → Option Bool
  | .tt => some true
  | .ff => some false
  | .bool b => some b
  | _ => none

theorem boolOf_den {v : SV} {b : Bool} (h : boolOf v = some b) (ρ : Env) : v.den ρ = .bool b := by
  cases v <;> simp [boolOf] at h <;> subst h <;> simp [SV.den]

/-- A number, or rows of numbers, to the bottom. -/
def deepB (tab : Tab) : Nat → TypeId → Bool
  | 0, _ => false
  | d + 1, t => match tab t with
    | none => false
    | some ti => match ti.d with
      | .int _ => Nat.beq ti.sz 1
      | .array n e => match tab e with
        | none => false
        | some te => deepB tab d e && Nat.beq ti.sz (n * te.sz)
      | _ => false

def rowV (agg : Bool) (k : IntKind) (l : List Int) : Value :=
  match agg with
  | true => .agg (l.map (Value.int k)).toArray
  | false => .int k (l.getD 0 0)

theorem run_forIn_all {P : Program} {w : World} (g : Nat → Option Bool × Unit → Sem (ForInStep (Option Bool × Unit))) (E : Nat → Bool) : ∀ (l : List Nat),
    (∀ i ∈ l, (g i (none, ())).run P w = .ok (if E i then ForInStep.yield (none, ()) else ForInStep.done (some false, ())) w) →
    (forIn l ((none : Option Bool), ()) g).run P w = .ok (if l.all E then (none, ()) else (some false, ())) w
  | [], _ => by simp
  | i :: l, h => by
    have h1 := h i (by simp)
    have ih := run_forIn_all g E l (fun j hj => h j (by simp [hj]))
    rw [List.forIn_cons]
    simp only [Sem.run_bind, h1, Result.andThen_ok]
    cases hE : E i with
    | true => simp [ih, hE]
    | false => simp [hE]

theorem rows_eq (s : Nat) : ∀ (n : Nat) (l l' : List Int), l.length = n * s → l'.length = n * s →
    ((List.range' 0 n).all fun i => sub l (i * s) s == sub l' (i * s) s) = (l == l')
  | 0, l, l', h, h' => by
    have : l = [] := by cases l <;> simp_all
    have : l' = [] := by cases l' <;> simp_all
    subst_vars; rfl
  | n + 1, l, l', h, h' => by
    have ih := rows_eq s n (l.drop s) (l'.drop s) (by simp [h, Nat.add_mul]) (by simp [h', Nat.add_mul])
    rw [List.range'_succ, List.all_cons]
    have e : (List.range' 1 n).all (fun i => sub l (i * s) s == sub l' (i * s) s) = (List.range' 0 n).all (fun i => sub (l.drop s) (i * s) s == sub (l'.drop s) (i * s) s) := by
      have e0 : List.range' 1 n = (List.range' 0 n).map (fun x => 1 + x) := by rw [List.map_add_range']
      rw [e0, List.all_map]
      congr 1
      funext i
      simp only [Function.comp, sub, List.drop_drop]
      rw [show (1 + i) * s = s + i * s from by rw [Nat.add_mul, Nat.one_mul]]
    rw [show (0 : Nat) + 1 = 1 from rfl, e, ih]
    simp only [sub, Nat.zero_mul, List.drop_zero]
    rw [Bool.eq_iff_iff]
    simp only [Bool.and_eq_true, beq_iff_eq]
    constructor
    · rintro ⟨a, b⟩
      rw [← List.take_append_drop s l, ← List.take_append_drop s l', a, b]
    · rintro rfl; exact ⟨rfl, rfl⟩

theorem run_part_row {P : Program} {w : World} {e : TypeId} {te : TyI} (he : TyOk P e te) {k : IntKind} {l : List Int} {o : Nat} (hb : TypeDesc.isAggB te.d = false → te.sz = 1) (h : o + te.sz ≤ l.length) :
    (part e (l.map (Value.int k)).toArray o).run P w = .ok (rowV (TypeDesc.isAggB te.d) k (sub l o te.sz)) w := by
  have hu : (isAgg e).run P w = .ok (TypeDesc.isAggB te.d) w := run_isAgg he
  have hs : (sizeOf e).run P w = .ok te.sz w := run_size he
  simp only [part, Sem.run_bind, hu, Result.andThen_ok, Sem.run_ite]
  cases hagg : TypeDesc.isAggB te.d with
  | true =>
    simp only [if_true, hs, Result.andThen_ok, Sem.run_pure, rowV]
    congr 2
    apply Array.ext'
    simp [sub, List.map_take, List.map_drop]
  | false =>
    have h1 := hb hagg
    simp only [Bool.false_eq_true, if_false, rowV]
    have : (List.map (Value.int k) l).toArray[o]? = some (.int k ((sub l o te.sz).getD 0 0)) := by
      rw [h1]
      have := cells_ints_getD (k := k) (l := l) (i := o) (by omega)
      simp only [List.getElem?_toArray, this]
      simp [sub, List.getD, show o < l.length by omega]
    rw [this]; rfl

theorem len1 {l : List Int} (h : l.length = 1) : ∃ a, l = [a] := by
  match l, h with
  | [a], _ => exact ⟨a, rfl⟩

theorem deep_eq {P : Program} {tab : Tab} (hT : TabOk P tab) {w : World} {k : IntKind} : ∀ (fuel : Nat) (D : Nat) (t : TypeId) (ti : TyI) (l l' : List Int), fuel ≤ D → tab t = some ti → deepB tab fuel t = true →
    l.length = ti.sz → l'.length = ti.sz → (TypeDesc.isAggB ti.d = false → ti.sz = 1) ∧ (Op.equalIn D t (rowV (TypeDesc.isAggB ti.d) k l) (rowV (TypeDesc.isAggB ti.d) k l')).run P w = .ok (l == l') w
  | 0, _, _, _, _, _, _, _, hd, _, _ => by simp [deepB] at hd
  | fuel + 1, 0, _, _, _, _, hD, _, _, _, _ => by omega
  | fuel + 1, D + 1, t, ti, l, l', hD, hti, hd, hl, hl' => by
    simp only [deepB, hti] at hd
    have ok := hT _ _ hti
    split at hd
    · rename_i k0 hk0
      have h1 := Nat.eq_of_beq_eq_true hd
      rw [h1] at hl hl'
      refine ⟨fun _ => h1, ?_⟩
      have hu : P.underlying t = some (.int k0) := by rw [ok.und, hk0]
      rw [hk0]
      simp only [TypeDesc.isAggB, rowV]
      obtain ⟨a, rfl⟩ := len1 hl
      obtain ⟨b, rfl⟩ := len1 hl'
      have := run_equalIn_int (P := P) w D t k k0 a b hu
      simp only [List.getD_cons_zero]
      rw [this]
      simp
    · rename_i n e hne
      split at hd
      · cases hd
      rename_i te hte
      simp only [Bool.and_eq_true] at hd
      obtain ⟨hd1, hd2⟩ := hd
      have hsz := Nat.eq_of_beq_eq_true hd2
      refine ⟨fun h => by (rw [hne] at h; cases h), ?_⟩
      have hu : ∀ w, (underlying t).run P w = .ok (.array n e) w := fun w => by rw [run_und ok, hne]
      have hs : ∀ w, (Go.sizeOf e).run P w = .ok te.sz w := fun w => run_size (hT _ _ hte)
      rw [hne]
      simp only [TypeDesc.isAggB, rowV, Op.equalIn, Sem.run_bind, hu, Result.andThen_ok, hs]
      rw [Std.Legacy.Range.forIn_eq_forIn_range']
      have hsize : (Std.Legacy.Range.size [:n]) = n := by simp [Std.Legacy.Range.size]
      rw [hsize]
      rw [run_forIn_all (P := P) (w := w) _ (fun i => sub l (i * te.sz) te.sz == sub l' (i * te.sz) te.sz) (List.range' 0 n) (fun i hi => ?_)]
      · rw [rows_eq te.sz n l l' (by omega) (by omega)]
        cases l == l' <;> simp
      · simp at hi
        have hle : i * te.sz + te.sz ≤ n * te.sz := by
          rw [← Nat.succ_mul]; exact Nat.mul_le_mul_right _ hi
        have ih := deep_eq hT (w := w) (k := k) fuel D e te (sub l (i * te.sz) te.sz) (sub l' (i * te.sz) te.sz) (by omega) hte hd1 (by simp [sub]; omega) (by simp [sub]; omega)
        simp only [Sem.run_bind, run_part_row (hT _ _ hte) ih.1 (show i * te.sz + te.sz ≤ l.length by omega), run_part_row (hT _ _ hte) ih.1 (show i * te.sz + te.sz ≤ l'.length by omega), Result.andThen_ok, ih.2]
        cases sub l (i * te.sz) te.sz == sub l' (i * te.sz) te.sz <;> simp
    · cases hd

def eqF (tab : Tab) (rec : TypeId → SV → SV → T Bool) (x y : SV) : List Field → T Bool
  | [] => .ret true
  | f :: fs => (partS tab f.type x f.offset).bind fun a => (partS tab f.type y f.offset).bind fun b => (rec f.type a b).bind fun r => (eqF tab rec x y fs).bind fun r' => .ret (r && r')

def isAggV : SV → Bool
  | .agg _ => true
  | .ints _ _ _ => true
  | _ => false

def eqT (tab : Tab) : Nat → TypeId → SV → SV → T Bool
  | 0, _, _, _ => .fail "==: depth"
  | d + 1, t, x, y => match tab t with
    | none => .fail "==: type"
    | some ti => match ti.d with
      | .int _ => match numOf x, numOf y with
        | some (_, k, a), some (_, k', b) => match decide (k = k') with
          | true => .ret (a == b)
          | false => .fail "==: kinds"
        | _, _ => .fail "==: numbers"
      | .bool => match boolOf x, boolOf y with
        | some a, some b => .ret (a == b)
        | _, _ => .fail "==: bools"
      | .array _ _ => match x, y with
        | .ints k m l, .ints k' m' l' => match decide (k = k'), deepB tab (d + 1) t, Nat.beq m ti.sz, Nat.beq m' ti.sz with
          | true, true, true, true => .ret (l == l')
          | _, _, _, _ => .fail "==: arrays"
        | _, _ => .fail "==: arrays of what"
      | .struct fs => match ti.pl, isAggV x, isAggV y with
        | true, true, true => eqF tab (eqT tab d) x y fs.toList
        | _, _, _ => .fail "==: structs"
      | _ => .fail "==: of what"

theorem isAggV_den {v : SV} (h : isAggV v = true) (ρ : Env) : v.den ρ = .agg (v.den ρ).cells := by
  cases v <;> simp [isAggV] at h <;> simp [SV.den, Value.cells]

theorem eqF_spec {P : Program} {tab : Tab} (hT : TabOk P tab) {rec : TypeId → SV → SV → T Bool} {D : Nat} {ρ : Env} {w : World}
    (hrec : ∀ t x y r, wf x → wf y → T.Reach (rec t x y) r → (Op.equalIn D t (x.den ρ) (y.den ρ)).run P w = .ok r w) {x y : SV} (hx : wf x) (hy : wf y) :
    ∀ (fs : List Field) (r : Bool), (∀ f ∈ fs, f.name ≠ "_") → T.Reach (eqF tab rec x y fs) r → (Op.eqFields D (x.den ρ).cells (y.den ρ).cells fs).run P w = .ok r w
  | [], r, _, h => by simp only [eqF, T.reach_ret] at h; subst h; simp [Op.eqFields]
  | f :: fs, r, hn, h => by
    simp only [eqF, T.reach_bind, T.reach_ret] at h
    obtain ⟨a, ha, b, hb, r1, h1, r2, h2, rfl⟩ := h
    obtain ⟨wa, -, ra⟩ := partS_spec hT hx ha
    obtain ⟨wb, -, rb⟩ := partS_spec hT hy hb
    have e1 := hrec _ _ _ _ wa wb h1
    have e2 := eqF_spec hT hrec hx hy fs r2 (fun g hg => hn g (by simp [hg])) h2
    simp only [Op.eqFields, hn f (by simp), ne_eq, not_false_eq_true, if_true, Sem.run_bind, ra ρ w, rb ρ w, Result.andThen_ok, e1]
    cases r1 <;> simp [e2]

theorem eqT_spec {P : Program} {tab : Tab} (hT : TabOk P tab) {ρ : Env} {w : World} : ∀ (fuel D : Nat) (t : TypeId) (x y : SV) (r : Bool), fuel ≤ D → wf x → wf y → T.Reach (eqT tab fuel t x y) r →
    (Op.equalIn D t (x.den ρ) (y.den ρ)).run P w = .ok r w
  | 0, _, _, _, _, _, _, _, _, h => (T.reach_fail h).elim
  | fuel + 1, 0, _, _, _, _, hD, _, _, _ => by omega
  | fuel + 1, D + 1, t, x, y, r, hD, hx, hy, h => by
    simp only [eqT] at h
    split at h
    · exact (T.reach_fail h).elim
    rename_i ti hti
    have ok := hT _ _ hti
    split at h
    · rename_i k0 hk0
      have hu : P.underlying t = some (.int k0) := by rw [ok.und, hk0]
      split at h
      · rename_i b1 k a b2 k' b hx' hy'
        split at h
        · rename_i hk
          have hk : k = k' := of_decide_eq_true hk
          subst hk
          rw [T.reach_ret] at h; subst h
          rw [numOf_den hx', numOf_den hy', run_equalIn_int w D t k k0 a b hu]
        · exact (T.reach_fail h).elim
      · exact (T.reach_fail h).elim
    · rename_i hk0
      have hu : P.underlying t = some .bool := by rw [ok.und, hk0]
      split at h
      · rename_i a b hx' hy'
        rw [T.reach_ret] at h; subst h
        rw [boolOf_den hx', boolOf_den hy', run_equalIn_bool' w D t a b hu]
      · exact (T.reach_fail h).elim
    · rename_i n e hne
      split at h
      · rename_i k m l k' m' l'
        split at h
        · rename_i hk hd hm hm'
          have hk : k = k' := of_decide_eq_true hk
          subst hk
          have hm := Nat.eq_of_beq_eq_true hm
          have hm' := Nat.eq_of_beq_eq_true hm'
          simp only [wf] at hx hy
          rw [T.reach_ret] at h; subst h
          have := (deep_eq hT (w := w) (k := k) (fuel + 1) (D + 1) t ti l l' hD hti hd (by omega) (by omega)).2
          rw [hne] at this
          exact this
        · exact (T.reach_fail h).elim
      · exact (T.reach_fail h).elim
    · rename_i fs hfs
      split at h
      · rename_i hpl hax hay
        obtain ⟨p1, p2, p3⟩ := ok.plain hpl
        have hu : P.underlying t = some (.struct fs) := by rw [ok.und, hfs]
        have hf : P.fieldsOf t = fs := by simp [Program.fieldsOf, hu]
        rw [isAggV_den hax, isAggV_den hay, run_equalIn_struct w D t _ _ (by rw [hf]; exact hu) p1, hf]
        exact eqF_spec hT (fun t x y r a b c => eqT_spec hT fuel D t x y r (by omega) a b c) hx hy fs.toList r (p3 fs hfs) h
      · exact (T.reach_fail h).elim
    · exact (T.reach_fail h).elim
end Go.Sx

/- The symbolic layer: slices as vectors: what the world does. -/
namespace Go.Sx
open Go.RowKit (Below)

theorem addv {g o j : Nat} : (⟨g, o, none⟩ : Addr).add j = ⟨g, o + j, none⟩ := by
  unfold Addr.add; split
  · rename_i h; subst h; rfl
  · rfl

/-- What an operation does: a value for its slot; blocks. -/
structure Eff where
  v : SV
  w : Mem

def memE (m : Mem) : Mem → Mem
  | [] => m
  | (i, b) :: r => upd (memE m r) i b

def Eff.on (S : St) (dst : Option Tmp) (e : Eff) : St := ({ S with mem := memE S.mem e.w } : St).put dst e.v

/-- A slice, looked up: the vector in whose row it lies, and where. -/
structure VI where
  root : Nat
  own : Bool
  e : TypeId
  k : IntKind
  st : Nat
  off : Nat
  n : Nat
  l : List Int
  whole : Bool

def vecAt (m : Mem) (i : Nat) : Option VI :=
  match look m i with
  | some (.vec own e k st n l) => some ⟨i, own, e, k, st, 0, n, l, true⟩
  | some (.view p st off n) => match look m p with
    | some (.vec own e k st' _ l) => match Nat.beq st st' with
      | true => some ⟨p, own, e, k, st, off, n, l, false⟩
      | false => none
    | _ => none
  | _ => none

/-- What is known of a slice's value. -/
def VecHas (w : World) (u v : Value) (V : VI) : Prop :=
  ∃ a c, v = .slice a V.n c ∧ V.n ≤ c ∧ (V.n * V.st = 0 ∨ ∃ g o n0 c0, u = .slice (some ⟨g, o, none⟩) n0 c0 ∧ a = some ⟨g, o + V.off * V.st, none⟩ ∧
    (∀ j u, (V.l.map (Value.int V.k))[j]? = some u → w.cell? ⟨g, o + j, none⟩ = some u) ∧ V.l.length = n0 * V.st ∧ V.off + V.n ≤ n0)

theorem VecOwn.has {w : World} {base : Nat} {e : TypeId} {k : IntKind} {st : Nat} {v : Value} {n : Nat} {l : List Int} (h : VecOwn w base e st v n (l.map (Value.int k))) (i : Nat) (b : Bool) : VecHas w v v ⟨i, b, e, k, st, 0, n, l, true⟩ := by
  rcases h with ⟨ao, rfl, rfl, -⟩ | ⟨g, c, hc, rfl, ho⟩
  · exact ⟨ao, 0, rfl, Nat.le_refl _, .inl (by simp)⟩
  · have hl := ho.1
    have hcell := ho.cells (g := g) rfl
    refine ⟨some ⟨g, 0, none⟩, c, rfl, ?_, .inr ⟨g, 0, n, c, rfl, by simp, fun j u hj => ?_, by simpa using hl, by simp⟩⟩
    · rcases ho.2 with ⟨e, -⟩ | ⟨g', cap, cur, e, -, -, r, -⟩
      · cases e
      · cases e; exact r
    · have := hcell j u hj
      rw [addv] at this
      exact this

theorem VecOwm.has {w : World} {base : Nat} {e : TypeId} {k : IntKind} {st : Nat} {v : Value} {n : Nat} {l : List Int} (h : VecOwm w base e st v n (l.map (Value.int k))) (i : Nat) (b : Bool) : VecHas w v v ⟨i, b, e, k, st, 0, n, l, true⟩ := by
  rcases h with h | ⟨-, g, c, hc, rfl, -, h1, h2, cur, el, h3, h4, h5⟩
  · exact h.has i b
  · refine ⟨some ⟨g, 0, none⟩, c, rfl, h2, .inr ⟨g, 0, n, c, rfl, by simp, fun j u hj => ?_, by simpa using h1, by simp⟩⟩
    rw [← h5, List.getElem?_take] at hj
    split at hj
    · simp only [World.cell?, h3, Nat.zero_add]
      simpa using hj
    · cases hj

theorem VecRead.has {w : World} {base : Nat} {e : TypeId} {k : IntKind} {st : Nat} {v : Value} {n : Nat} {l : List Int} (h : VecRead w base st v n (l.map (Value.int k))) (i : Nat) (b : Bool) : VecHas w v v ⟨i, b, e, k, st, 0, n, l, true⟩ := by
  obtain ⟨h1, a, c, rfl, h3, h4⟩ := h
  rw [List.length_map] at h1
  refine ⟨a, c, rfl, h3, ?_⟩
  rcases h4 with h4 | ⟨g, o, rfl, -, h5⟩
  · left
    have : l = [] := by simpa using h4
    subst this
    simpa using h1.symm
  · exact .inr ⟨g, o, n, c, rfl, by simp, h5, h1, by simp⟩

theorem vecOk_has {base : Nat} {ρ : Env} {w : World} {i : Nat} {own : Bool} {e : TypeId} {k : IntKind} {st n : Nat} {l : List Int} (h : VecOk base ρ w i (.vec own e k st n l)) : VecHas w (ρ.vec i) (ρ.vec i) ⟨i, own, e, k, st, 0, n, l, true⟩ := by
  cases own with
  | true => exact VecOwm.has h i true
  | false => exact VecRead.has h i false

theorem Rel.vec_at {Γ : Gam} {ρ : Env} {S : St} {a : Act} {w : World} (h : Rel Γ ρ S a w) {i : Nat} {V : VI} (hv : vecAt S.mem i = some V) : VecHas w (ρ.vec V.root) (ρ.vec i) V := by
  unfold vecAt at hv
  split at hv
  · rename_i own e k st n l hl
    cases hv
    exact vecOk_has (h.mem i _ hl).1.vec
  · rename_i p st off n hl
    split at hv
    · rename_i own e k st' n0 l hp
      split at hv
      · rename_i hst
        have hst := Nat.eq_of_beq_eq_true hst
        subst hst
        cases hv
        obtain ⟨b, c, h1, h2, h3⟩ := (h.mem i _ hl).1.vec
        obtain ⟨b', c', k1, k2, k3⟩ := vecOk_has (h.mem p _ hp).1.vec
        refine ⟨b, c, h1, h2, ?_⟩
        simp only at k1 k2 k3 ⊢
        rcases h3 with h3 | ⟨g, o, m0, c0, e1, e2, e3⟩
        · left; rw [h3, Nat.zero_mul]
        · rcases k3 with k3 | ⟨g', o', m1, c1, f1, f2, f3, f4, f5⟩
          · rw [k1] at e1
            cases e1
            rcases Nat.mul_eq_zero.1 k3 with k3 | k3
            · left
              have : n = 0 := by omega
              rw [this, Nat.zero_mul]
            · left; rw [k3, Nat.mul_zero]
          · rw [e1] at f1
            cases f1
            exact .inr ⟨g, o, m0, c0, e1, e2, f3, f4, e3⟩
      · cases hv
    · cases hv
  · cases hv

/-- A slice's elements, one behind the other. -/
def VI.cont (V : VI) : List Int := match V.whole with
  | true => V.l
  | false => sub V.l (V.off * V.st) (V.n * V.st)

theorem VecHas.cont {w : World} {u v : Value} {V : VI} (h : VecHas w u v V) (hw : V.whole = true → V.off = 0 ∧ V.l.length = V.n * V.st) : ∃ a c, v = .slice a V.n c ∧ V.n ≤ c ∧ (V.n * V.st = 0 ∨ ∃ g o, a = some ⟨g, o, none⟩ ∧ V.cont.length = V.n * V.st ∧ ∀ j u, (V.cont.map (Value.int V.k))[j]? = some u → w.cell? ⟨g, o + j, none⟩ = some u) := by
  obtain ⟨a, c, h1, h2, h3⟩ := h
  refine ⟨a, c, h1, h2, ?_⟩
  rcases h3 with h3 | ⟨g, o, n0, c0, e1, e2, e3, e4, e5⟩
  · exact .inl h3
  · refine .inr ⟨g, o + V.off * V.st, e2, ?_, fun j u hj => ?_⟩
    · unfold VI.cont
      cases hb : V.whole with
      | true => exact (hw hb).2
      | false =>
        simp only [sub, List.length_take, List.length_drop, e4]
        have : (V.off + V.n) * V.st ≤ n0 * V.st := Nat.mul_le_mul_right _ e5
        rw [Nat.add_mul] at this
        omega
    · unfold VI.cont at hj
      cases hb : V.whole with
      | true =>
        rw [hb] at hj
        rw [(hw hb).1, Nat.zero_mul, Nat.add_zero]
        exact e3 j u hj
      | false =>
        rw [hb] at hj
        simp only [sub, List.map_take, List.map_drop, List.getElem?_take] at hj
        split at hj
        · rw [List.getElem?_drop] at hj
          have := e3 _ u hj
          rw [Nat.add_assoc]; exact this
        · cases hj

theorem VecOwn.len {w : World} {base : Nat} {e : TypeId} {st : Nat} {v : Value} {n : Nat} {xs : List Value} (h : VecOwn w base e st v n xs) : xs.length = n * st := by
  rcases h with ⟨-, -, rfl, rfl⟩ | ⟨-, -, -, -, ho⟩
  · simp
  · exact ho.1
theorem VecOwm.len {w : World} {base : Nat} {e : TypeId} {st : Nat} {v : Value} {n : Nat} {xs : List Value} (h : VecOwm w base e st v n xs) : xs.length = n * st := by
  rcases h with h | ⟨-, -, -, -, -, -, h1, -⟩
  · exact h.len
  · exact h1
theorem vecOk_len {base : Nat} {ρ : Env} {w : World} {i : Nat} {own : Bool} {e : TypeId} {k : IntKind} {st n : Nat} {l : List Int} (h : VecOk base ρ w i (.vec own e k st n l)) : l.length = n * st := by
  cases own with
  | true => have := VecOwm.len (show VecOwm w base e st (ρ.vec i) n (l.map (Value.int k)) from h); simpa using this
  | false => have := (show VecRead w base st (ρ.vec i) n (l.map (Value.int k)) from h).1; simpa using this

theorem Rel.vec_cont {Γ : Gam} {ρ : Env} {S : St} {a : Act} {w : World} (h : Rel Γ ρ S a w) {i : Nat} {V : VI} (hv : vecAt S.mem i = some V) :
    ∃ a c, ρ.vec i = .slice a V.n c ∧ V.n ≤ c ∧ (V.n * V.st = 0 ∨ ∃ g o, a = some ⟨g, o, none⟩ ∧ V.cont.length = V.n * V.st ∧ ∀ j u, (V.cont.map (Value.int V.k))[j]? = some u → w.cell? ⟨g, o + j, none⟩ = some u) := by
  refine (h.vec_at hv).cont fun hw => ?_
  unfold vecAt at hv
  split at hv
  · rename_i own e k st n l hl
    cases hv
    exact ⟨rfl, vecOk_len (h.mem i _ hl).1.vec⟩
  · rename_i p st off n hl
    split at hv
    · split at hv
      · cases hv; cases hw
      · cases hv
    · cases hv
  · cases hv

/-! ### A block's description, anew -/
theorem Rel.update {Γ : Gam} {ρ : Env} {S : St} {a : Act} {w w' : World} (h : Rel Γ ρ S a w) {i g : Nat} {b b' : Blk} (hl : look S.mem i = some b) (hp : phys ρ i b = some g) (hp' : phys ρ i b' = some g) (hg : w.grownBy w' (some g))
    (hok : BlkOk Γ.w0.heap.size ρ w' i b') (hid : b'.ids S.has) : Rel Γ ρ { S with mem := upd S.mem i b' } a w' := by
  have hhas : ∀ j, ({ S with mem := upd S.mem i b' } : St).has j ↔ S.has j := fun j => by
    simp only [St.has, look_upd]; split
    · rename_i e; subst e; simp [hl]
    · rfl
  have hb := ((h.mem i b hl).1.phys_lt hp).1
  have hK : ∀ D ob, Keep ρ S.mem w D ob → Keep ρ (upd S.mem i b') w' D ob := fun D _ hD => ⟨(hg.block D (Array.getElem?_eq_some_iff.1 hD.1).1 (fun e => hD.2 i b hl (hp.trans e.symm))).trans hD.1, fun j c hj hq => by
    simp only [look_upd] at hj
    split at hj
    · rename_i e; subst e
      cases hj
      exact hD.2 i b hl (hp.trans (hp'.symm.trans hq))
    · exact hD.2 j c hj hq⟩
  refine ⟨h.tm, h.df.map hg.size hK, ?_, ?_, below_grown h.below h.below.size hg (fun g' e => by cases e; exact hb), h.pin, h.nx, h.wfT, idsL_mono (fun j hj => (hhas j).2 hj) h.idT⟩
  · intro j c hj
    simp only [look_upd] at hj
    split at hj
    · rename_i e; subst e
      cases hj
      exact ⟨hok, Blk.ids_mono (fun j hj => (hhas j).2 hj) hid⟩
    · rename_i hij
      obtain ⟨hokj, hids⟩ := h.mem j c hj
      exact ⟨hokj.grown hg (fun g' e => by cases e; exact ⟨hb, fun hq => h.dj i j b c hl hj hij _ hp hq⟩), Blk.ids_mono (fun j hj => (hhas j).2 hj) hids⟩
  · intro j k c d hj hk hne g' hq hr
    have fix : ∀ j c, look (upd S.mem i b') j = some c → ∃ c', look S.mem j = some c' ∧ phys ρ j c' = phys ρ j c := fun j c hj => by
      simp only [look_upd] at hj
      split at hj
      · rename_i e; subst e
        cases hj
        exact ⟨b, hl, by rw [hp, hp']⟩
      · exact ⟨c, hj, rfl⟩
    obtain ⟨c', h1, h2⟩ := fix j c hj
    obtain ⟨d', h3, h4⟩ := fix k d hk
    exact h.dj j k c' d' h1 h3 hne g' (h2.trans hq) (h4.trans hr)

/-- A new vector, or view. -/
theorem Rel.newVec {Γ : Gam} {ρ : Env} {S : St} {a : Act} {w w' : World} (h : Rel Γ ρ S a w) {o : Option Nat} {b : Blk} {v : Value} {row : Option Nat} (hg : w.grownBy w' row)
    (hrow : ∀ g, row = some g → ∃ o' c, o = some o' ∧ look S.mem o' = some c ∧ phys ρ o' c = some g) (ho : ∀ o', o = some o' → S.has o')
    (hlk : look S.mem S.next = none) (hlt : S.next < 1000000) (hpl : b.placed = false) (hok : ∀ ρ' : Env, ρ'.vec S.next = v → (∀ j, j ≠ S.next → ρ'.vec j = ρ.vec j) → VecOk Γ.w0.heap.size ρ' w' S.next b) (hid : b.ids S.has)
    (hph : ∀ g, (match b with | .vec true _ _ _ _ _ => physV v | .mp _ _ _ _ _ => physM v | _ => none) = some g → w.heap.size ≤ g ∨ row = some g) (dst : Option Tmp) {n' : Nat} (hn : Γ.n0 ≤ n') (hsl : sliceV v = v) :
    ∃ ρ', Rel Γ ρ' { ({ S with mem := upd (goneM S.mem o) S.next b } : St).put dst (.sl S.next) with next := n' } (a.put dst v) w' := by
  have hni : ¬ Γ.pinned S.next := by
    rintro (hp | hp)
    · have := h.nx; omega
    · omega
  have e1 : (ρ.set S.next 0 0 0 v).vec S.next = v := if_pos rfl
  have := h.change (i := S.next) (o := o) (b := b) (blk := 0) (off := 0) (cap := 0) (vec := v) hg hrow ho hlk hni
    ⟨(by cases b <;> first | trivial | (cases hpl; done)), (fun j u hj => by cases b <;> first | (simp [Blk.cells] at hj; done) | (cases hpl; done)), (fun hh => by cases b <;> first | (cases hh; done) | (cases hpl; done)), (fun _ hh => by rw [hpl] at hh; cases hh), hok _ e1 (fun j hj => if_neg hj)⟩ hid
    (fun g hp => hph g (by
      cases b with
      | vec own e k st n l => cases own <;> simp only [phys] at hp ⊢ <;> first | cases hp | (rw [e1] at hp; exact hp)
      | st => cases hpl
      | dyn => cases hpl
      | view => cases hp
      | nz => cases hp
      | mp a z k v es => simp only [phys, e1] at hp; exact hp
      | gone => cases hp)) S.next h.nx
  have h2 := this.put dst (v := .sl S.next) (by simp only [wf]) (by simp only [SV.ids, St.has, look_upd]; simp)
  have hd : (SV.sl S.next).den (ρ.set S.next 0 0 0 v) = v := by simp only [SV.den, e1, hsl]
  rw [hd] at h2
  exact ⟨_, h2.next hn⟩
end Go.Sx

/- The symbolic layer, part I: one operation, whatever it is, and what it does to a frame and a world. -/
namespace Go.Sx
open Go.RowKit (Below)

/-- What the executor is given. -/
structure Cx where
  tab : Tab
  ext : FuncId → Option (List SV → T SV)
  fn : FuncId → Option (List SV → T SV)
  inl : FuncId → Option (List SV → St → T (SV × St))
  fnm : FuncId → Option (List SV → List (Option VI) → Nat → T (SV × Option Blk))

mutual
/-- The slices that a value holds. -/
def slsV : SV → List Nat
  | .sl i => [i]
  | .agg ps => slsL ps
  | .tup ps => slsL ps
  | .fn _ cs => slsL cs
  | .lit _ _ | .int _ _ | .tt | .ff | .bool _ | .ptr _ _ _ | .slice _ _ _ _ _ | .raw _ | .ints _ _ _ | .junk _ | .vptr _ _ | .mp _ | .str _ => []
def slsL : List SV → List Nat
  | [] => []
  | v :: vs => slsV v ++ slsL vs
end

def isSl : SV → Bool
  | .sl _ => true
  | _ => false

def oneE (i : Nat) : Option Blk → Mem
  | some b => [(i, b)]
  | none => []

/-- Functions whose contracts speak of slices. -/
def FnmOk (P : Program) (Γ : Gam) (cx : Cx) : Prop := ∀ g spec, cx.fnm g = some spec → (∀ args w, (callFunc g args).run P w = .ok (.enter g args) w) ∧
  ∀ args v ob ρ S a w, Rel Γ ρ S a w → (∀ x ∈ args, wf x) → idsL S.has args → look S.mem S.next = none → S.next < 1000000 → T.Reach (spec args ((slsL args).map (vecAt S.mem)) S.next) (v, ob) →
    Calls P g (denL ρ args).toArray w (fun e w' => ∃ u, e = .returned u ∧ ∀ dst n', Γ.n0 ≤ n' → ∃ ρ', Rel Γ ρ' { (Eff.on S dst ⟨v, oneE S.next ob⟩) with next := n' } (a.put dst u) w')

structure SpecOk (spec : List SV → T SV) : Prop where
  wf : ∀ args v, (∀ x ∈ args, wf x) → T.Reach (spec args) v → wf v
  ids : ∀ args v, T.Reach (spec args) v → ∀ p : Nat → Prop, (∀ x ∈ args, x.ids p) → v.ids p

/-- Functions that are walked into where they are called: what a call makes of the state. -/
def InlOk (P : Program) (Γ : Gam) (cx : Cx) : Prop := ∀ g h, cx.inl g = some h → (∀ args w, (callFunc g args).run P w = .ok (.enter g args) w) ∧
  ∀ args S v S', (∀ x ∈ args, wf x) → idsL S.has args → T.Reach (h args S) (v, S') → ∀ ρ a w, Rel Γ ρ S a w →
    Calls P g (denL ρ args).toArray w (fun e w' => ∃ ρ', e = .returned (v.den ρ') ∧ Rel Γ ρ' S' a w' ∧ wf v ∧ v.ids S'.has)

structure CxOk (P : Program) (G : World → Prop) (cx : Cx) : Prop where
  tab : TabOk P cx.tab
  ext : ∀ g spec, cx.ext g = some spec → SpecOk spec ∧ ∀ args v, (∀ x ∈ args, wf x) → T.Reach (spec args) v → ∀ ρ w, (callFunc g (denL ρ args).toArray).run P w = .ok (.value (v.den ρ)) w
  fn : ∀ g spec, cx.fn g = some spec → SpecOk spec ∧ (∀ args w, (callFunc g args).run P w = .ok (.enter g args) w) ∧
    ∀ args v, (∀ x ∈ args, wf x) → T.Reach (spec args) v → ∀ ρ w, G w → Calls P g (denL ρ args).toArray w (fun e w' => e = .returned (v.den ρ) ∧ Below w.heap.size w w')
  keep : ∀ w w', Below w.heap.size w w' → G w → G w'
  mixed : P.follows .mixedOrders = true
  inl : ∀ Γ : Gam, Γ.G = G → Γ.G Γ.w0 → GlobOk Γ → InlOk P Γ cx
  fnm : ∀ Γ : Gam, Γ.G = G → Γ.G Γ.w0 → GlobOk Γ → FnmOk P Γ cx

def pureS (cx : Cx) (o : Oper) (ev : Operand → SV) : Option (T SV) :=
  match o.op with
  | .move x => some (.ret (ev x))
  | .assign x => some (.ret (ev x))
  | .pick c a b => match ev c with
    | .tt => some (.ret (ev a))
    | .ff => some (.ret (ev b))
    | .bool t => some (pickB t (ev a) (ev b))
    | _ => none
  | .build t parts => some (buildS cx.tab t (parts.toList.map fun x => (x.1, ev x.2)))
  | .binOp op t x y _ => match numOf (ev x), numOf (ev y) with
    | some (lx, k, a), some (ly, k', b) => some (binN op lx k a ly k' b)
    | _, _ => match isAggV (ev x) && isAggV (ev y), cx.tab t with
      | true, some ti => match ti.pl with
        | true => match op with
          | .eql => some ((eqT cx.tab 8 t (ev x) (ev y)).bind fun r => .ret (.bool r))
          | .neq => some ((eqT cx.tab 8 t (ev x) (ev y)).bind fun r => .ret (.bool (!r)))
          | _ => none
        | false => none
      | _, _ => match boolOf (ev x), boolOf (ev y) with
        | some a, some b => match (match cx.tab t with
            | some ti => match ti.d with
              | .bool => true
              | _ => false
            | none => false) with
          | true => match op with
            | .eql => some (.ret (.bool (a == b)))
            | .neq => some (.ret (.bool (!(a == b))))
            | _ => none
          | false => none
        | _, _ => none
  | .unOp op _ x => some (unS op (ev x))
  | .convert src dst x => match isSl (ev x) with
    | true => none
    | false => some (convertS cx.tab src dst (ev x))
  | .fieldAddr s x f => some (fieldAddrS cx.tab s (ev x) f)
  | .field s x f => some (fieldS cx.tab s (ev x) f)
  | .indexAddr t x i => match isSl (ev x) with
    | true => none
    | false => some (indexS cx.tab t (ev x) (ev i))
  | .index t x i => some (indexVS cx.tab t (ev x) (ev i))
  | .slice t x lo hi mx => match isSl (ev x), mx with
    | false, none => some (sliceS cx.tab t (ev x) (lo.map ev) (hi.map ev))
    | _, _ => none
  | .extract x i => some (extractS (ev x) i)
  | .makeFunc fn first caps => match fn, first.toList with
    | .func f, [] => some (.ret (.fn f (caps.toList.map ev)))
    | _, _ => none
  | .call c => match c.callee with
    | .builtin .len => match c.argTypes[0]?, c.args[0]? with
      | some t, some x => match isSl (ev x) with
        | true => none
        | false => some (lenS cx.tab t (ev x))
      | _, _ => none
    | .value f => match ev f with
      | .fn g caps => match cx.ext g with
        | some spec => some (spec (c.args.toList.map ev ++ caps))
        | none => none
      | _ => none
    | _ => none
  | _ => none


theorem extractS_spec {P : Program} {x v : SV} {i : Nat} (hx : wf x) (h : T.Reach (extractS x i) v) : wf v ∧ (∀ p, x.ids p → v.ids p) ∧ ∀ ρ w, (Instr.extract (x.den ρ) i).run P w = .ok (v.den ρ) w := by
  unfold extractS at h
  split at h
  · rename_i ps
    split at h
    · rename_i u hu
      rw [T.reach_ret] at h; subst h
      have hm : v ∈ ps := List.mem_of_getElem? hu
      simp only [wf] at hx
      refine ⟨wfL_iff.1 hx v hm, fun p hp => ?_, fun ρ w => ?_⟩
      · simp only [SV.ids] at hp; exact idsL_iff.1 hp v hm
      · simp only [SV.den, Instr.extract, denL_eq]
        have : (List.map (SV.den ρ) ps).toArray[i]? = some (v.den ρ) := by simp [hu]
        simp [this]
    · exact (T.reach_fail h).elim
  · exact (T.reach_fail h).elim

theorem run_eqGuard_agg {P : Program} {w : World} {op : BinOp} {t : TypeId} {x y : Operand} {a b : Value} (ha : a ≠ .nilIface) (hg : ∀ cs, a = .agg cs → P.eqGuardType P.depth t = false) :
    (eqGuard op t x y a b).run P w = .ok () w := by
  unfold eqGuard
  split
  · simp only [Bool.not_true, Bool.false_eq_true, if_false]
    cases a
    case nilIface => exact absurd rfl ha
    case agg cs =>
      cases b <;> try rfl
      simp [hg cs rfl]
    all_goals (cases b <;> rfl)
  · simp only [Bool.not_true, Bool.false_eq_true, if_false]
    cases a
    case nilIface => exact absurd rfl ha
    case agg cs =>
      cases b <;> try rfl
      simp [hg cs rfl]
    all_goals (cases b <;> rfl)
  · simp

theorem den_not_nilIface {x : SV} (h : numOf x ≠ none ∨ isAggV x = true ∨ boolOf x ≠ none) (ρ : Env) : x.den ρ ≠ .nilIface := by
  intro he
  cases x <;> simp [numOf, isAggV, boolOf] at h <;> simp [SV.den] at he

theorem map_build (ev : Operand → SV) (ρ : Env) (parts : Array (Nat × Operand)) :
    (parts.map fun (x : Nat × Operand) => (x.1, (ev x.2).den ρ)) = ((parts.toList.map fun x => (x.1, ev x.2)).map fun x => (x.1, x.2.den ρ)).toArray := by
  apply Array.ext'; simp

theorem pureS_spec {P : Program} {G : World → Prop} {cx : Cx} (hc : CxOk P G cx) {o : Oper} {ev : Operand → SV} {t : T SV} {v : SV} (hw : ∀ x, wf (ev x)) (ht : pureS cx o ev = some t) (h : T.Reach t v) :
    wf v ∧ (∀ p, (∀ x ∈ o.op.operands, (ev x).ids p) → v.ids p) ∧ ∀ ρ w, (execOp (fun x => (ev x).den ρ) o).run P w = .ok (.value (v.den ρ)) w := by
  obtain ⟨dst, op, type, pos, after, guard⟩ := o
  unfold pureS at ht
  simp only at ht
  split at ht
  · -- move
    simp at ht; subst ht; rw [T.reach_ret] at h; subst h
    exact ⟨hw _, fun p hp => hp _ (by simp [Op.operands]), fun ρ w => rfl⟩
  · simp at ht; subst ht; rw [T.reach_ret] at h; subst h
    exact ⟨hw _, fun p hp => hp _ (by simp [Op.operands]), fun ρ w => rfl⟩
  · -- pick
    rename_i c a b
    split at ht
    · rename_i hcv
      simp at ht; subst ht; rw [T.reach_ret] at h; subst h
      exact ⟨hw _, fun p hp => hp _ (by simp [Op.operands]), fun ρ w => by simp [execOp, hcv, SV.den, asBool]⟩
    · rename_i hcv
      simp at ht; subst ht; rw [T.reach_ret] at h; subst h
      exact ⟨hw _, fun p hp => hp _ (by simp [Op.operands]), fun ρ w => by simp [execOp, hcv, SV.den, asBool]⟩
    · rename_i cb hcv
      simp at ht; subst ht
      obtain ⟨h1, h2, h3⟩ := pickB_spec h
      refine ⟨h2 (hw _) (hw _), fun p hp => h3 p (hp _ (by simp [Op.operands])) (hp _ (by simp [Op.operands])), fun ρ w => ?_⟩
      simp [execOp, hcv, SV.den, asBool, h1 ρ]
    · cases ht
  · -- build
    rename_i bt parts
    simp at ht; subst ht
    obtain ⟨h1, h2, h3⟩ := buildS_spec hc.tab (fun x hx => by simp at hx; obtain ⟨a, b, -, rfl⟩ := hx; exact hw _) h
    refine ⟨h1, fun p hp => h2 p (fun x hx => ?_), fun ρ w => ?_⟩
    · simp at hx
      obtain ⟨a, b, hm, rfl⟩ := hx
      exact hp _ (by simp [Op.operands]; exact ⟨a, hm⟩)
    · have := h3 ρ w
      simp only [execOp, map_build, Sem.run_bind, this, Result.andThen_ok, Sem.run_pure]
  · -- binOp
    rename_i bop bt x y yt
    split at ht
    · rename_i lx k a ly k' b hx hy
      simp at ht; subst ht
      refine ⟨(binN_plain h).wf, fun p _ => (binN_plain h).ids p, fun ρ w => ?_⟩
      have e1 : (eqGuard bop bt x y ((ev x).den ρ) ((ev y).den ρ)).run P w = .ok () w :=
        run_eqGuard_agg (den_not_nilIface (.inl (by rw [hx]; simp)) ρ) (fun cs he => by rw [numOf_den hx] at he; cases he)
      have e2 := run_binN (P := P) (w := w) (t := bt) h ρ
      rw [← numOf_den hx ρ, ← numOf_den hy ρ] at e2
      simp only [execOp, Sem.run_bind, e1, Result.andThen_ok, e2, Sem.run_pure]
    · rename_i hnn
      split at ht
      · rename_i ti hagg hti
        simp only [Bool.and_eq_true] at hagg
        split at ht
        · rename_i hpl
          obtain ⟨-, p2, -⟩ := (hc.tab _ _ hti).plain hpl
          have key : ∀ r, T.Reach (eqT cx.tab 8 bt (ev x) (ev y)) r → ∀ ρ w, (Op.equal bt ((ev x).den ρ) ((ev y).den ρ)).run P w = .ok r w := fun r hr ρ w =>
            eqT_spec hc.tab 8 Op.maxDepth bt _ _ r (by simp [Op.maxDepth]) (hw _) (hw _) hr
          have e1 : ∀ ρ w, (eqGuard bop bt x y ((ev x).den ρ) ((ev y).den ρ)).run P w = .ok () w := fun ρ w =>
            run_eqGuard_agg (den_not_nilIface (.inr (.inl hagg.1)) ρ) (fun _ _ => p2)
          split at ht
          · simp at ht; subst ht
            rw [T.reach_bind] at h
            obtain ⟨r, hr, h⟩ := h
            rw [T.reach_ret] at h; subst h
            refine ⟨by simp only [wf], fun p _ => by simp [SV.ids], fun ρ w => ?_⟩
            have hk := key r hr ρ w
            simp only [execOp, Sem.run_bind, e1, Result.andThen_ok, Sem.run_pure]
            rw [isAggV_den hagg.1, isAggV_den hagg.2] at hk ⊢
            simp [binOp, hk, SV.den]
          · simp at ht; subst ht
            rw [T.reach_bind] at h
            obtain ⟨r, hr, h⟩ := h
            rw [T.reach_ret] at h; subst h
            refine ⟨by simp only [wf], fun p _ => by simp [SV.ids], fun ρ w => ?_⟩
            have hk := key r hr ρ w
            simp only [execOp, Sem.run_bind, e1, Result.andThen_ok, Sem.run_pure]
            rw [isAggV_den hagg.1, isAggV_den hagg.2] at hk ⊢
            simp [binOp, hk, SV.den]
          · cases ht
        · cases ht
      · split at ht
        · rename_i a b ha hb
          split at ht
          · rename_i hbool
            have hu : P.underlying bt = some .bool := by
              split at hbool
              · rename_i ti hti
                have ok := hc.tab _ _ hti
                split at hbool
                · rename_i hd; rw [ok.und, hd]
                · cases hbool
              · cases hbool
            have key : ∀ w, (Op.equal bt (.bool a) (.bool b)).run P w = .ok (a == b) w := fun w => run_equalIn_bool' w 9999 bt a b hu
            have e1 : ∀ ρ w, (eqGuard bop bt x y ((ev x).den ρ) ((ev y).den ρ)).run P w = .ok () w := fun ρ w =>
              run_eqGuard_agg (den_not_nilIface (.inr (.inr (by rw [ha]; simp))) ρ) (fun cs he => by rw [boolOf_den ha] at he; cases he)
            split at ht
            · simp at ht; subst ht
              rw [T.reach_ret] at h; subst h
              refine ⟨by simp only [wf], fun p _ => by simp [SV.ids], fun ρ w => ?_⟩
              simp only [execOp, Sem.run_bind, e1, Result.andThen_ok, Sem.run_pure]
              rw [boolOf_den ha, boolOf_den hb]
              simp [binOp, key, SV.den]
            · simp at ht; subst ht
              rw [T.reach_ret] at h; subst h
              refine ⟨by simp only [wf], fun p _ => by simp [SV.ids], fun ρ w => ?_⟩
              simp only [execOp, Sem.run_bind, e1, Result.andThen_ok, Sem.run_pure]
              rw [boolOf_den ha, boolOf_den hb]
              simp [binOp, key, SV.den]
            · cases ht
          · cases ht
        · cases ht
  · -- unOp
    simp at ht; subst ht
    obtain ⟨h1, h2⟩ := unS_spec (P := P) h
    exact ⟨h1.wf, fun p _ => h1.ids p, fun ρ w => by simp [execOp, h2 ρ w]⟩
  · split at ht
    · cases ht
    · simp at ht; subst ht
      obtain ⟨h1, h2⟩ := convertS_spec hc.tab h
      exact ⟨h1.wf, fun p _ => h1.ids p, fun ρ w => by simp [execOp, h2 ρ w]⟩
  · simp at ht; subst ht
    obtain ⟨h1, h2, h3⟩ := fieldAddrS_spec hc.tab h
    exact ⟨h1, fun p hp => h2 p (hp _ (by simp [Op.operands])), fun ρ w => by simp [execOp, h3 ρ w]⟩
  · simp at ht; subst ht
    obtain ⟨h1, h2, h3⟩ := fieldS_spec hc.tab (hw _) h
    exact ⟨h1, fun p hp => h2 p (hp _ (by simp [Op.operands])), fun ρ w => by simp [execOp, h3 ρ w]⟩
  · split at ht
    · cases ht
    simp at ht; subst ht
    obtain ⟨h1, h2, h3⟩ := indexS_spec hc.tab h
    exact ⟨h1, fun p hp => h2 p (hp _ (by simp [Op.operands])), fun ρ w => by simp [execOp, h3 ρ w]⟩
  · simp at ht; subst ht
    obtain ⟨h1, h2, h3⟩ := indexVS_spec hc.tab (hw _) h
    exact ⟨h1, fun p hp => h2 p (hp _ (by simp [Op.operands])), fun ρ w => by simp [execOp, h3 ρ w]⟩
  · -- slice
    rename_i st x lo hi mx
    split at ht
    case h_2 => cases ht
    simp at ht; subst ht
    obtain ⟨h1, h2, h3⟩ := sliceS_spec hc.tab h
    refine ⟨h1, fun p hp => h2 p (hp _ (by simp [Op.operands])), fun ρ w => ?_⟩
    have := h3 ρ w
    simp only [Option.map_map] at this
    simp only [execOp, Option.map_none, Sem.run_bind, Sem.run_pure]
    rw [show (Option.map (fun x => (ev x).den ρ) lo) = Option.map (SV.den ρ ∘ ev) lo from rfl, show (Option.map (fun x => (ev x).den ρ) hi) = Option.map (SV.den ρ ∘ ev) hi from rfl, this]; rfl
  · simp at ht; subst ht
    obtain ⟨h1, h2, h3⟩ := extractS_spec (P := P) (hw _) h
    exact ⟨h1, fun p hp => h2 p (hp _ (by simp [Op.operands])), fun ρ w => by simp [execOp, h3 ρ w]⟩
  · -- makeFunc
    rename_i fn first caps
    split at ht
    case h_2 => cases ht
    rename_i f hfirst
    have hfirst : first = #[] := by apply Array.ext'; simpa using hfirst
    subst hfirst
    simp at ht; subst ht; rw [T.reach_ret] at h; subst h
    refine ⟨?_, fun p hp => ?_, fun ρ w => ?_⟩
    · simp only [wf]; exact wfL_iff.2 fun q hq => by simp at hq; obtain ⟨x, -, rfl⟩ := hq; exact hw _
    · simp only [SV.ids]; exact idsL_iff.2 fun q hq => by simp at hq; obtain ⟨x, hx, rfl⟩ := hq; exact hp _ (by simp [Op.operands, hx])
    · simp only [execOp, SV.den, denL_eq, Instr.makeFunc, Sem.run_bind, Sem.run_pure, Result.andThen_ok, Array.map_empty]
      congr 3
      apply Array.ext'; simp
  · -- call
    rename_i c
    split at ht
    · -- len
      rename_i hcal
      split at ht
      · rename_i lt x hlt hx
        split at ht
        · cases ht
        simp at ht; subst ht
        obtain ⟨h1, h2⟩ := lenS_spec hc.tab h c.argTypes (c.args.map fun x => 0 |> fun _ => Value.nilFunc) hlt type
        refine ⟨h1.wf, fun p _ => h1.ids p, fun ρ w => ?_⟩
        obtain ⟨-, h2⟩ := lenS_spec hc.tab h c.argTypes (c.args.map fun x => (ev x).den ρ) hlt type
        have := h2 ρ w (by simp [hx])
        simp [execOp, resolve, hcal, invoke, builtin, this]
      · cases ht
    · rename_i f hcal
      split at ht
      · rename_i g caps hf
        split at ht
        · rename_i spec hspec
          simp at ht; subst ht
          obtain ⟨s1, s2⟩ := hc.ext g spec hspec
          have hargs : ∀ x ∈ c.args.toList.map ev ++ caps, wf x := fun x hx => by
            rw [List.mem_append] at hx
            rcases hx with hx | hx
            · simp at hx; obtain ⟨y, -, rfl⟩ := hx; exact hw _
            · have := hw f; rw [hf] at this; simp only [wf] at this; exact wfL_iff.1 this x hx
          refine ⟨s1.wf _ _ hargs h, fun p hp => s1.ids _ _ h p (fun x hx => ?_), fun ρ w => ?_⟩
          · rw [List.mem_append] at hx
            rcases hx with hx | hx
            · simp at hx; obtain ⟨y, hy, rfl⟩ := hx; exact hp _ (by simp [Op.operands, Call.operands, hcal, hy])
            · have := hp f (by simp [Op.operands, Call.operands, hcal]); rw [hf] at this; simp only [SV.ids] at this; exact idsL_iff.1 this x hx
          · have h2 := s2 _ _ hargs h ρ w
            have e : (denL ρ (c.args.toList.map ev ++ caps)).toArray = (c.args.map fun x => (ev x).den ρ) ++ (denL ρ caps).toArray := by
              apply Array.ext'; simp [denL_eq]
            rw [e] at h2
            simp only [execOp, resolve, hcal, hf, SV.den, Deferred.ofValue, Sem.run_bind, Sem.run_pure, Result.andThen_ok, invoke]
            simpa using h2
        · cases ht
      · cases ht
    · cases ht
  · cases ht
end Go.Sx

/- The symbolic layer: slices as vectors: what operations do to them. -/
namespace Go.Sx
open Go.RowKit (Below)

theorem vecAt_whole {m : Mem} {i : Nat} {V : VI} (h : vecAt m i = some V) (hw : V.whole = true) : V.off = 0 := by
  unfold vecAt at h
  split at h
  · cases h; rfl
  · split at h
    · split at h
      · cases h; cases hw
      · cases h
    · cases h
  · cases h

theorem vecAt_root {m : Mem} {i : Nat} {V : VI} (h : vecAt m i = some V) : ∃ n0, look m V.root = some (.vec V.own V.e V.k V.st n0 V.l) := by
  unfold vecAt at h
  split at h
  · rename_i hl; cases h; exact ⟨_, hl⟩
  · split at h
    · rename_i hp
      split at h
      · rename_i hst
        have hst := Nat.eq_of_beq_eq_true hst
        cases h; subst hst; exact ⟨_, hp⟩
      · cases h
    · cases h
  · cases h

/-- The place of a vector's cell in its row. -/
def VI.at (V : VI) (o : Nat) : Nat := match V.whole with
  | true => o
  | false => V.off * V.st + o

theorem VI.at_eq {m : Mem} {i : Nat} {V : VI} (h : vecAt m i = some V) (o : Nat) : V.at o = V.off * V.st + o := by
  unfold VI.at
  split
  · rename_i hw; rw [vecAt_whole h hw]; simp
  · rfl

def readV (V : VI) (o c : Nat) (sc : Bool) : T SV :=
  .need (o + c ≤ mulN V.n V.st) (match sc with
    | true => .ret (.int V.k (V.l.getD (V.at o) 0))
    | false => .ret (.ints V.k c (sub V.l (V.at o) c)))

theorem VecHas.place {w : World} {u v : Value} {V : VI} (h : VecHas w u v V) {o c : Nat} (h0 : 0 < c) (hle : o + c ≤ V.n * V.st) :
    ∃ g p cc n0 c0, v = .slice (some ⟨g, p + V.off * V.st, none⟩) V.n cc ∧ u = .slice (some ⟨g, p, none⟩) n0 c0 ∧ (∀ j u, (V.l.map (Value.int V.k))[j]? = some u → w.cell? ⟨g, p + j, none⟩ = some u) ∧ V.off * V.st + o + c ≤ V.l.length ∧ V.l.length = n0 * V.st := by
  obtain ⟨a, cc, h1, h2, h3⟩ := h
  rcases h3 with h3 | ⟨g, p, n0, c0, e1, e2, e3, e4, e5⟩
  · omega
  · refine ⟨g, p, cc, n0, c0, by rw [h1, e2], e1, e3, ?_, e4⟩
    have : (V.off + V.n) * V.st ≤ n0 * V.st := Nat.mul_le_mul_right _ e5
    rw [Nat.add_mul] at this
    omega

theorem readV_sound {Γ : Gam} {ρ : Env} {S : St} {a : Act} {w : World} (h : Rel Γ ρ S a w) {i o c : Nat} {sc : Bool} {V : VI} {v : SV} (hv : vecAt S.mem i = some V) (h0 : 0 < c) (h1 : sc = true → c = 1) (hr : T.Reach (readV V o c sc) v) :
    wf v ∧ (∀ q, v.ids q) ∧ ∃ g p, (∃ m cc, ρ.vec i = .slice (some ⟨g, p, none⟩) m cc ∧ o < m * V.st) ∧ match sc with
      | true => w.cell? ⟨g, p + o, none⟩ = some (v.den ρ)
      | false => ∃ cs : List Value, cs.length = c ∧ v.den ρ = .agg cs.toArray ∧ (∃ k l, v = .ints k c l) ∧ ∀ j u, cs[j]? = some u → w.cell? ⟨g, p + o + j, none⟩ = some u := by
  unfold readV at hr
  rw [T.reach_need, mulN_eq] at hr
  obtain ⟨hle, hr⟩ := hr
  obtain ⟨g, p, cc, n0, c0, e1, e2, e3, e4, e5⟩ := (h.vec_at hv).place h0 hle
  split at hr
  · rw [T.reach_ret] at hr; subst hr
    refine ⟨by simp only [wf], fun q => by simp [SV.ids], g, p + V.off * V.st, ⟨_, _, e1, by omega⟩, ?_⟩
    simp only [SV.den]
    rw [VI.at_eq hv, Nat.add_assoc]
    exact e3 _ _ (cells_ints_getD (by have := h1 rfl; omega))
  · rw [T.reach_ret] at hr; subst hr
    refine ⟨by simp only [wf, sub, List.length_take, List.length_drop]; rw [VI.at_eq hv]; omega, fun q => by simp [SV.ids], g, p + V.off * V.st, ⟨_, _, e1, by omega⟩, (sub V.l (V.at o) c).map (Value.int V.k), ?_, by simp [SV.den], ⟨_, _, rfl⟩, fun j u hj => ?_⟩
    · simp only [sub, List.length_map, List.length_take, List.length_drop]; rw [VI.at_eq hv]; omega
    · simp only [sub, List.map_take, List.map_drop, List.getElem?_take] at hj
      split at hj
      · rw [List.getElem?_drop, VI.at_eq hv] at hj
        have := e3 _ u hj
        rw [show p + V.off * V.st + o + j = p + (V.off * V.st + o + j) from by omega]; exact this
      · cases hj

/-! ### Stores -/
def putV (c : Nat) (l : List Int) (p : Nat) (lv : List Int) : List Int := match c with
  | 1 => l.set p (lv.headD 0)
  | _ => splice l p lv

def writeV (S : St) (i o c : Nat) (vs : List SV) : T Mem :=
  match vecAt S.mem i with
  | some V => match look S.mem V.root, V.own with
    | some (.vec true e k st n l), true => match vs with
      | [.ints k' _ lv] => match (decide (k = k') && !mkE e) with
        | true => .need (o + c ≤ mulN V.n V.st) (.ret [(V.root, .vec true e k st n (putV c l (V.at o) lv))])
        | false => .fail "write: kinds"
      | _ => .fail "write: no list of numbers"
    | _, _ => .fail "write: into what came in"
  | none => .fail "write: no such vector"

theorem putV_eq {l lv : List Int} {p c : Nat} (h : lv.length = c) (h0 : 0 < c) (hle : p + c ≤ l.length) : putV c l p lv = l.take p ++ lv ++ l.drop (p + c) := by
  unfold putV
  split
  · match lv, h with
    | [x], _ =>
      simp only [List.headD_cons]
      rw [List.set_eq_take_append_cons_drop, if_pos (by omega)]
      simp
  · simp only [splice, h]

theorem take_put {α : Type} {X Y lv : List α} {q c N : Nat} (hX : X.length = N) (hl : lv.length = c) (hq : q + c ≤ N) : ((X ++ Y).take q ++ lv ++ (X ++ Y).drop (q + c)).take N = X.take q ++ lv ++ X.drop (q + c) := by
  subst hX
  have e1 : (X ++ Y).take q = X.take q := List.take_append_of_le_length (by omega)
  have e2 : (X ++ Y).drop (q + c) = X.drop (q + c) ++ Y := List.drop_append_of_le_length hq
  rw [e1, e2, ← List.append_assoc]
  exact List.take_left' (by simp; omega)

theorem writeV_sound {P : Program} {Γ : Gam} {ρ : Env} {S : St} {a : Act} {w : World} (h : Rel Γ ρ S a w) {i o c : Nat} {vs : List SV} {ws : Mem} (hva : ∀ p ∈ vs, isAtom p) (hw : widthL vs = c) (h0 : 0 < c) (hr : T.Reach (writeV S i o c vs) ws) :
    ∃ g p m cc w', ρ.vec i = .slice (some ⟨g, p, none⟩) m cc ∧ (storeCells ⟨g, p + o, none⟩ (cellsL ρ vs)).run P w = .ok () w' ∧ Rel Γ ρ { S with mem := memE S.mem ws } a w' := by
  unfold writeV at hr
  split at hr
  · rename_i V hv
    split at hr
    · rename_i e k st n l hl hown
      split at hr
      · rename_i k' m lv
        split at hr
        · rename_i hk
          simp only [Bool.and_eq_true, Bool.not_eq_true', decide_eq_true_eq] at hk
          obtain ⟨hk, hme⟩ := hk
          subst hk
          rw [T.reach_need, T.reach_ret, mulN_eq] at hr
          obtain ⟨hle, rfl⟩ := hr
          have hlv := hva _ (List.mem_singleton.2 rfl)
          simp only [isAtom] at hlv
          have hlc : lv.length = c := by simp [widthL, watom] at hw; omega
          obtain ⟨n0, hroot⟩ := vecAt_root hv
          rw [hl] at hroot
          simp only [Option.some.injEq, Blk.vec.injEq] at hroot
          obtain ⟨-, rfl, rfl, rfl, rfl, rfl⟩ := hroot
          obtain ⟨g, p, cc, n0', c0, e1, e2, e3, e4, e5⟩ := (h.vec_at hv).place h0 hle
          obtain ⟨hok, -⟩ := h.mem _ _ hl
          have hvec : VecOwn w Γ.w0.heap.size V.e V.st (ρ.vec V.root) n (V.l.map (Value.int V.k)) := VecOwm.strip hok.vec hme
          rcases hvec with ⟨ao, hz, rfl, hnil⟩ | ⟨g', cap, hcap, hval, ho⟩
          · rw [e2] at hz
            have : V.l = [] := by simpa using hnil
            rw [this] at e4
            simp at e4
            omega
          · have hval' := hval
            rw [e2] at hval
            cases hval
            rcases ho.2 with ⟨hz, -⟩ | ⟨g2, cap2, cur, hz, hb, hg, hnc, hcm, hcs, htake⟩
            · rw [e2] at hz; cases hz
            · rw [e2] at hz
              cases hz
              have hfit : V.off * V.st + o + lv.length ≤ cur.size := by
                rw [hcs, hlc]
                have : n * V.st ≤ c0 * V.st := Nat.mul_le_mul_right _ hnc
                omega
              have hrun := run_storeCells_at P g (V.off * V.st + o) V.e (lv.map (Value.int V.k)) 0 cur w hg (by simpa using hfit) (by intro u hu; simp at hu; obtain ⟨x, -, rfl⟩ := hu; rfl)
              have hcs2 : cellsL ρ [SV.ints V.k m lv] = lv.map (Value.int V.k) := by simp [cellsL, SV.den, Value.cells]
              refine ⟨g, 0 + V.off * V.st, V.n, cc, w.setRow g (cur.toList.take (V.off * V.st + o + 0) ++ lv.map (Value.int V.k) ++ cur.toList.drop (V.off * V.st + o + 0 + (lv.map (Value.int V.k)).length)).toArray, e1, ?_, ?_⟩
              · rw [hcs2, Nat.zero_add]; exact hrun
              · simp only [memE, Nat.add_zero, List.length_map]
                have hpl := putV_eq (l := V.l) (p := V.at o) hlc h0 (by rw [VI.at_eq hv]; exact e4)
                have hlen : (putV c V.l (V.at o) lv).length = V.l.length := by
                  rw [hpl]; simp; rw [VI.at_eq hv]; omega
                have hp : phys ρ V.root (.vec true V.e V.k V.st n V.l) = some g := by
                  simp only [phys, hval']; exact physV_row hcap
                refine h.update (g := g) hl hp hp ⟨rfl, rfl, rfl, by simp, fun k _ hk => setRow_other w g k _ (fun e => hk (by rw [e]))⟩ ⟨trivial, fun j u hj => (by cases hj), fun hh => (by cases hh), fun _ hh => (by cases hh), ?_⟩ trivial
                refine Or.inl ?_
                refine .inr ⟨g, c0, hcap, hval', ?_, .inr ⟨g, c0, _, hval', hb, setRow_heap w g cur _ V.e _ hg, hnc, hcm, ?_, ?_⟩⟩
                · rw [List.length_map, hlen, e5]
                · simp only [List.size_toArray, List.length_append, List.length_take, List.length_drop, Array.length_toList, List.length_map]
                  omega
                · have hll := e5
                  have htl : cur.toList.take (n * V.st) = V.l.map (Value.int V.k) := htake
                  have hcl : cur.toList = V.l.map (Value.int V.k) ++ cur.toList.drop (n * V.st) := by
                    conv => lhs; rw [← List.take_append_drop (n * V.st) cur.toList]
                    rw [htl]
                  rw [hpl, VI.at_eq hv]
                  simp only [List.map_append, List.map_take, List.map_drop]
                  rw [hcl, hlc]
                  exact take_put (by rw [List.length_map]; exact e5) (by rw [List.length_map]; exact hlc) (by rw [← e5]; exact e4)
        · exact (T.reach_fail hr).elim
      · exact (T.reach_fail hr).elim
    · exact (T.reach_fail hr).elim
  · exact (T.reach_fail hr).elim
end Go.Sx

/- The symbolic layer: append, make, slices of slices. -/
namespace Go.Sx
open Go.RowKit (Below)

/-- What a source yields. -/
structure SrcIs (w : World) (st : Nat) (y : Value) (m : Nat) (news : List Value) : Prop where
  len : news.length = m * st
  one : ∀ u ∈ news, u.oneCell' = true
  val : ∃ a c, y = .slice a m c ∧ (m = 0 ∨ ∃ ad : Addr, a = some ad ∧ ∀ j u, news[j]? = some u → w.cell? (ad.add j) = some u)

theorem SrcIs.src {P : Program} {w : World} {st : Nat} {y : Value} {m : Nat} {news : List Value} (h : SrcIs w st y m news) {tx e' : TypeId} (hk : P.underlying tx = some (.slice e')) : Src P st tx y m news w := by
  obtain ⟨a, c, rfl, h0⟩ := h.val
  rcases h0 with rfl | ⟨ad, rfl, hc⟩
  · have : news = [] := List.eq_nil_of_length_eq_zero (by rw [h.len]; simp)
    subst this
    cases a with
    | none => exact Src.ofNil w hk c
    | some ad => exact Src.ofSlice w hk ad 0 c [] (by simp) (fun j u hj => by simp at hj) (fun u hu => by cases hu)
  · exact Src.ofSlice w hk ad m c news h.len hc h.one

/-- **append, onto what is the call's own.** -/
theorem append_own {P : Program} {w : World} {base : Nat} {t ty e : TypeId} {i : TypeInfo} {z : Value} {st : Nat} {v y : Value} {n m : Nat} {xs news : List Value} (ht : P.underlying t = some (.slice e)) (hi : P.info? e = some i) (hz : i.zero = some z)
    (hsize : i.size = st) (hzs : z.cells.size = st) (hst : 0 < st) (hown : VecOwn w base e st v n xs) (hs : SrcIs w st y m news) (hbase : base ≤ w.heap.size)
    (hby : (n + m) * i.bytes ≤ 140737488355328) (hb0 : 0 < i.bytes) :
    ∃ v' w', (Builtin.append_ #[t, t] ty #[v, y]).run P w = .ok v' w' ∧ VecOwn w' base e st v' (n + m) (xs ++ news) ∧ w.grownBy w' (physV v) ∧ (∀ g, physV v' = some g → w.heap.size ≤ g ∨ physV v = some g) ∧ sliceV v' = v' := by
  have hnm : n + m ≤ 140737488355328 := Nat.le_trans (Nat.le_mul_of_pos_right _ hb0) hby
  have hmx : n + m ≤ maxLen := by simp only [maxLen]; omega
  have hsrc := hs.src (P := P) (tx := t) ht
  by_cases hm : m = 0
  · subst hm
    have hnil : news = [] := List.eq_nil_of_length_eq_zero (by rw [hs.len]; simp)
    subst hnil
    have hv : ∃ b c, v = .slice b n c ∧ n ≤ c := by
      rcases hown with ⟨ao, rfl, rfl, -⟩ | ⟨g, c, -, rfl, ho⟩
      · exact ⟨ao, 0, rfl, Nat.le_refl _⟩
      · refine ⟨_, c, rfl, ?_⟩
        rcases ho.2 with ⟨hh, -⟩ | ⟨g', c', cur, hh, -, -, h1, -⟩
        · cases hh
        · cases hh; exact h1
    obtain ⟨b, c, hv, hle⟩ := hv
    have hr := run_append_nothing (P := P) w t t ty e i ht hi b n c hle y (by rw [hsize]; exact hsrc)
    rw [← hv] at hr
    refine ⟨v, w, hr, by simpa using hown, ⟨rfl, rfl, rfl, Nat.le_refl _, fun _ _ _ => rfl⟩, fun g hg => .inr hg, by rw [hv]; rfl⟩
  · rcases hown with ⟨ao, rfl, rfl, rfl⟩ | ⟨g, c, hc, rfl, ho⟩
    · have hold : (Builtin.firstCells i.size 0 (.slice ao 0 0)).run P w.drew = .ok ([] : List Value).toArray w.drew := by
        cases ao with
        | none => exact run_firstCells_none w.drew i.size 0 0 0
        | some a => exact run_firstCells_some w.drew i.size 0 a 0 0 [] (by simp) (fun j u hj => by simp at hj)
      have hr := run_append_grow_src (P := P) w t t ty e i z ht hi hz ao 0 0 [] hold y m news (by rw [hsize]; exact hsrc) (by omega) (by omega) (growslice_fits (by omega) hby)
      refine ⟨_, _, hr, .inr ⟨w.heap.size, _, ?_, rfl, ?_, .inr ⟨w.heap.size, _, _, rfl, hbase, heap_alloc_new w.drew _, grownCap_ge w (0 + m) 0 e, grownCap_le_maxLen w (0 + m) 0 e hmx, ?_, ?_⟩⟩, ⟨rfl, rfl, rfl, by simp, fun k hk _ => heap_alloc_old w.drew _ k hk⟩, fun g hg => ?_, rfl⟩
      · have := grownCap_ge w (0 + m) 0 e; omega
      · simp only [List.nil_append, hs.len, Nat.zero_add]
      · have hge := grownCap_ge w (0 + m) 0 e
        simp only [List.nil_append, Array.size_append, List.size_toArray, size_zeroCells, hzs, hs.len, ← Nat.add_mul]
        congr 1
        omega
      · simp only [List.nil_append, Array.toList_append, Nat.zero_add]
        rw [← hs.len]
        exact List.take_left
      · have hge := grownCap_ge w (0 + m) 0 e
        rw [physV_row (by omega)] at hg
        cases hg
        exact .inl (Nat.le_refl _)
    · obtain ⟨a, cy, rfl, hy⟩ := hs.val
      rcases hy with hy | ⟨ad, rfl, hcell⟩
      · exact absurd hy hm
      · obtain ⟨v', w', h1, h2, h3, -, h5⟩ := run_append_own_at (P := P) w base t ty e i z st i.bytes ht hi hz hsize rfl hzs hst _ n xs ho ad m cy news hs.len hcell hs.one hmx hby hbase
        rw [physV_row hc]
        refine ⟨v', w', h1, VecOwn.of_owns h2, h3, fun g' hg' => ?_, ?_⟩
        · have hob : v'.ownBlock = some g' := by
            cases v' with
            | slice a n c => cases a with
              | none => cases hg'
              | some a => cases c with
                | zero => cases hg'
                | succ c => exact hg'
            | _ => cases hg'
          rw [hob] at h5
          rcases h5 with h5 | h5
          · right; simpa [Value.ownBlock] using h5.symm
          · left; cases h5; exact Nat.le_refl _
        · rcases h2.2 with ⟨rfl, -⟩ | ⟨_, _, _, rfl, -⟩ <;> rfl
end Go.Sx

/- The symbolic layer: append, make, slices of slices: as effects. -/
namespace Go.Sx
open Go.RowKit (Below)

/-- The kind of a type's numbers. -/
def kindZ : SV → IntKind
  | .lit k _ => k
  | .int k _ => k
  | .ints k _ _ => k
  | _ => .u8

def zeros : List Int → Bool
  | [] => true
  | x :: l => decide (x = 0) && zeros l

/-- A type's zero value is so many numbers 0. -/
def zeroOk (k : IntKind) (st : Nat) : SV → Bool
  | .lit k' n => decide (k' = k) && decide (n = 0) && Nat.beq st 1
  | .int k' n => decide (k' = k) && decide (n = 0) && Nat.beq st 1
  | .ints k' n l => decide (k' = k) && Nat.beq n st && zeros l && Nat.beq l.length st
  | _ => false

theorem zeros_eq : ∀ {l : List Int}, zeros l = true → l = List.replicate l.length 0
  | [], _ => rfl
  | x :: l, h => by
    simp only [zeros, Bool.and_eq_true, decide_eq_true_eq] at h
    obtain ⟨rfl, h⟩ := h
    rw [List.length_cons, List.replicate_succ, ← zeros_eq h]

theorem zeroOk_den {k : IntKind} {st : Nat} {z : SV} (h : zeroOk k st z = true) (ρ : Env) : (z.den ρ).cells = (List.replicate st (Value.int k 0)).toArray := by
  cases z <;> simp only [zeroOk, Bool.and_eq_true, decide_eq_true_eq, Bool.false_eq_true] at h
  · obtain ⟨⟨rfl, rfl⟩, h⟩ := h
    rw [Nat.eq_of_beq_eq_true h]; rfl
  · obtain ⟨⟨rfl, rfl⟩, h⟩ := h
    rw [Nat.eq_of_beq_eq_true h]; rfl
  · rename_i k' n l
    obtain ⟨⟨⟨rfl, -⟩, hz⟩, hl⟩ := h
    have hl := Nat.eq_of_beq_eq_true hl
    simp only [SV.den, Value.cells]
    rw [zeros_eq hz, hl]
    simp

/-- What is appended. -/
def appSrc (S : St) (k : IntKind) (st : Nat) (y : SV) : T (Nat × List Int) :=
  match y with
  | .sl j => match vecAt S.mem j with
    | some V => match Nat.beq V.st st, decide (V.k = k) with
      | true, true => .ret (V.n, V.cont)
      | _, _ => .fail "append: of what"
    | none => .fail "append: no such vector"
  | .slice b o x (.lit m) _ => match look S.mem b with
    | some blk => (readBlk blk o x (m * st) false).bind fun v => (atomsOf v).bind fun vs => match vs with
      | [.ints k' _ lv] => match decide (k' = k) with
        | true => .ret (m, lv)
        | false => .fail "append: kinds"
      | _ => .fail "append: no list of numbers"
    | none => .fail "append: no such block"
  | .raw (.slice _ 0 _) => .ret (0, [])
  | _ => .fail "append: what"

theorem oneCell_int {k : IntKind} {l : List Int} : ∀ u ∈ l.map (Value.int k), u.oneCell' = true := by
  intro u hu; simp at hu; obtain ⟨x, -, rfl⟩ := hu; rfl

theorem appSrc_sound {Γ : Gam} {ρ : Env} {S : St} {a : Act} {w : World} (h : Rel Γ ρ S a w) {k : IntKind} {st : Nat} (hst : 0 < st) {y : SV} {r : Nat × List Int} (hr : T.Reach (appSrc S k st y) r) : SrcIs w st (y.den ρ) r.1 (r.2.map (Value.int k)) := by
  unfold appSrc at hr
  split at hr
  · rename_i j
    split at hr
    · rename_i V hV
      split at hr
      · rename_i h1 h2
        have h1 := Nat.eq_of_beq_eq_true h1
        have h2 := of_decide_eq_true h2
        subst h1; subst h2
        rw [T.reach_ret] at hr; subst hr
        obtain ⟨ao, c, e1, e2, e3⟩ := h.vec_cont hV
        have hval : (SV.sl j).den ρ = .slice ao V.n c := by simp only [SV.den, e1]; rfl
        rw [hval]
        rcases e3 with e3 | ⟨g, o, e4, e5, e6⟩
        · have hn : V.n = 0 := by
            rcases Nat.mul_eq_zero.1 e3 with h | h
            · exact h
            · omega
          have hc : V.cont = [] := by
            unfold VI.cont
            cases hw : V.whole with
            | true =>
              have hl := (show V.l.length = V.n * V.st by
                unfold vecAt at hV
                split at hV
                · rename_i hl; cases hV; exact vecOk_len (h.mem j _ hl).1.vec
                · split at hV
                  · split at hV
                    · cases hV; cases hw
                    · cases hV
                  · cases hV
                · cases hV)
              rw [e3] at hl
              exact List.eq_nil_of_length_eq_zero hl
            | false => simp [sub, hn]
          exact ⟨by simp [hc, hn], oneCell_int, _, _, rfl, .inl hn⟩
        · exact ⟨by simpa using e5, oneCell_int, _, _, rfl, .inr ⟨⟨g, o, none⟩, e4, fun j u hj => by rw [addv]; exact e6 j u hj⟩⟩
      · exact (T.reach_fail hr).elim
    · exact (T.reach_fail hr).elim
  · rename_i b o x m cap
    split at hr
    · rename_i blk hblk
      rw [T.reach_bind] at hr
      obtain ⟨v, hv, hr⟩ := hr
      rw [T.reach_bind] at hr
      obtain ⟨vs, hvs, hr⟩ := hr
      split at hr
      · rename_i k' n' lv
        split at hr
        · rename_i hk
          have hk := of_decide_eq_true hk
          subst hk
          rw [T.reach_ret] at hr; subst hr
          obtain ⟨hok, -⟩ := h.mem b blk hblk
          obtain ⟨hwf, hg1, hg2⟩ := got_blk (ρ := ρ) (fun e => by cases e) hok.atoms hv
          have hcs := atomsOf_cells (ρ := ρ) hvs
          rw [hg1] at hcs
          simp only [Value.cells, cellsL, SV.den, List.append_nil] at hcs
          refine ⟨?_, oneCell_int, ⟨some ⟨ρ.blk b, ρ.off b + (o + x.den ρ), none⟩, cap.den ρ, rfl, .inr ⟨_, rfl, fun j u hj => ?_⟩⟩⟩
          · rw [hcs]; simp; omega
          · rw [addv]
            rw [hcs, List.getElem?_take] at hj
            split at hj
            · rw [List.getElem?_drop] at hj
              have := hok.cell _ _ hj
              rw [show ρ.off b + (o + x.den ρ) + j = ρ.off b + (o + x.den ρ + j) from by omega]; exact this
            · cases hj
        · exact (T.reach_fail hr).elim
      · exact (T.reach_fail hr).elim
    · exact (T.reach_fail hr).elim
  · rw [T.reach_ret] at hr; subst hr
    exact ⟨by simp, oneCell_int, _, _, rfl, .inl rfl⟩
  · exact (T.reach_fail hr).elim

/-- What it is appended to: how many elements, the numbers, and the vector that goes. -/
def appDst (S : St) (e : TypeId) (k : IntKind) (st : Nat) (x : SV) : T (Nat × List Int × Option Nat) :=
  match x with
  | .sl i => match look S.mem i with
    | some (.vec true e' k' st' n l) => match Nat.beq e' e, (decide (k' = k) && !mkE e'), Nat.beq st' st with
      | true, true, true => .ret (n, l, some i)
      | _, _, _ => .fail "append: kinds"
    | _ => .fail "append: to what came in"
  | .slice _ _ _ (.lit 0) (.lit 0) => .ret (0, [], none)
  | .raw (.slice _ 0 0) => .ret (0, [], none)
  | _ => .fail "append: to what"

theorem appDst_sound {Γ : Gam} {ρ : Env} {S : St} {a : Act} {w : World} (h : Rel Γ ρ S a w) {e : TypeId} {k : IntKind} {st : Nat} {x : SV} {r : Nat × List Int × Option Nat} (hr : T.Reach (appDst S e k st x) r) :
    VecOwn w Γ.w0.heap.size e st (x.den ρ) r.1 (r.2.1.map (Value.int k)) ∧ (∀ g, physV (x.den ρ) = some g → ∃ o' c, r.2.2 = some o' ∧ look S.mem o' = some c ∧ phys ρ o' c = some g) ∧ ∀ o', r.2.2 = some o' → S.has o' := by
  unfold appDst at hr
  split at hr
  · rename_i i
    split at hr
    · rename_i e' k' st' n l hl
      split at hr
      · rename_i h1 h2 h3
        have h1 := Nat.eq_of_beq_eq_true h1
        simp only [Bool.and_eq_true, Bool.not_eq_true', decide_eq_true_eq] at h2
        obtain ⟨h2, hme⟩ := h2
        have h3 := Nat.eq_of_beq_eq_true h3
        subst h1; subst h2; subst h3
        rw [T.reach_ret] at hr; subst hr
        have hv : VecOwn w Γ.w0.heap.size e' st' (ρ.vec i) n (l.map (Value.int k')) := VecOwm.strip (h.mem i _ hl).1.vec hme
        have hd : (SV.sl i).den ρ = ρ.vec i := by
          simp only [SV.den]
          rcases hv with ⟨ao, hz, -⟩ | ⟨g, c, -, hz, -⟩ <;> rw [hz] <;> rfl
        rw [hd]
        exact ⟨hv, fun g hg => ⟨i, _, rfl, hl, by simp only [phys]; exact hg⟩, fun o' ho => by cases ho; simp [St.has, hl]⟩
      · exact (T.reach_fail hr).elim
    · exact (T.reach_fail hr).elim
  · rename_i b o y
    rw [T.reach_ret] at hr; subst hr
    refine ⟨.inl ⟨_, rfl, rfl, rfl⟩, fun g hg => ?_, fun o' ho => by cases ho⟩
    simp [SV.den, SN.den, physV] at hg
  · rw [T.reach_ret] at hr; subst hr
    refine ⟨.inl ⟨_, rfl, rfl, rfl⟩, fun g hg => ?_, fun o' ho => by cases ho⟩
    rename_i a
    cases a <;> simp [SV.den, physV] at hg
  · exact (T.reach_fail hr).elim

def oldGone : Option Nat → Mem
  | some o => [(o, .gone)]
  | none => []

theorem memE_oldGone (m : Mem) (o : Option Nat) (i : Nat) (b : Blk) : memE m ((i, b) :: oldGone o) = upd (goneM m o) i b := by cases o <;> rfl

def newE (S : St) (b : Blk) (o : Option Nat) : T Eff :=
  match look S.mem S.next, Nat.blt S.next 1000000 with
  | none, true => .ret ⟨.sl S.next, (S.next, b) :: oldGone o⟩
  | _, _ => .fail "new: the number is taken"

def appE (cx : Cx) (S : St) (t : TypeId) (x y : SV) : T Eff :=
  match cx.tab t with
  | some ti => match ti.d with
    | .slice e => match cx.tab e with
      | some te => match zeroOk (kindZ te.z) te.sz te.z, Nat.blt 0 te.sz, Nat.blt 0 te.bytes with
        | true, true, true => (appDst S e (kindZ te.z) te.sz x).bind fun d => (appSrc S (kindZ te.z) te.sz y).bind fun s =>
          .need (mulN (addO d.1 s.1) te.bytes ≤ 140737488355328) (newE S (.vec true e (kindZ te.z) te.sz (addO d.1 s.1) (d.2.1 ++ s.2)) d.2.2)
        | _, _, _ => .fail "append: an element"
      | none => .fail "append: the element's type"
    | _ => .fail "append: no slice"
  | none => .fail "append: type"

theorem newE_spec {S : St} {b : Blk} {o : Option Nat} {e : Eff} (h : T.Reach (newE S b o) e) : look S.mem S.next = none ∧ S.next < 1000000 ∧ e = ⟨.sl S.next, (S.next, b) :: oldGone o⟩ := by
  unfold newE at h
  split at h
  · rename_i h1 h2
    rw [T.reach_ret] at h
    exact ⟨h1, Nat.le_of_ble_eq_true h2, h⟩
  · exact (T.reach_fail h).elim

theorem app_sound {P : Program} {Γ : Gam} {cx : Cx} (hc : CxOk P Γ.G cx) {ρ : Env} {S : St} {a : Act} {w : World} (h : Rel Γ ρ S a w) {t ty : TypeId} {x y : SV} {e : Eff} (hr : T.Reach (appE cx S t x y) e) (dst : Option Tmp) {n' : Nat} (hn : Γ.n0 ≤ n') :
    ∃ v' w' ρ', (Builtin.append_ #[t, t] ty #[x.den ρ, y.den ρ]).run P w = .ok v' w' ∧ Rel Γ ρ' { e.on S dst with next := n' } (a.put dst v') w' := by
  unfold appE at hr
  split at hr
  · rename_i ti hti
    split at hr
    · rename_i el hd
      split at hr
      · rename_i te hte
        split at hr
        · rename_i hz hst hb
          have hst : 0 < te.sz := Nat.le_of_ble_eq_true hst
          have hb : 0 < te.bytes := Nat.le_of_ble_eq_true hb
          rw [T.reach_bind] at hr
          obtain ⟨d, hd', hr⟩ := hr
          rw [T.reach_bind] at hr
          obtain ⟨s, hs, hr⟩ := hr
          rw [T.reach_need] at hr
          obtain ⟨hle, hr⟩ := hr
          rw [mulN_eq, addO_eq] at hle
          obtain ⟨h1, h2, rfl⟩ := newE_spec hr
          have src := appSrc_sound h hst hs
          obtain ⟨own, ph, hh⟩ := appDst_sound h hd'
          have ok := hc.tab _ _ hte
          obtain ⟨j, i1, i2, i3, i4⟩ := ok.info
          have hu : P.underlying t = some (.slice el) := by rw [(hc.tab _ _ hti).und, hd]
          have hzs : (te.z.den ρ).cells.size = te.sz := by rw [zeroOk_den hz ρ]; simp
          obtain ⟨v', w', r1, r2, r3, r4, r5⟩ := append_own (ty := ty) hu i1 (i4 ρ) i2 hzs hst own src h.below.size (by rw [i3]; exact hle) (by rw [i3]; exact hb)
          obtain ⟨ρ', hrel⟩ := h.newVec (o := d.2.2) (b := .vec true el (kindZ te.z) te.sz (addO d.1 s.1) (d.2.1 ++ s.2)) (v := v') r3 (fun g hg => ph g hg) hh h1 h2 rfl
            (fun ρ' e1 _ => by
              show VecOwm w' Γ.w0.heap.size el te.sz (ρ'.vec S.next) (addO d.1 s.1) ((d.2.1 ++ s.2).map (Value.int (kindZ te.z)))
              rw [e1, addO_eq, List.map_append]; exact .inl r2) trivial (fun g hg => r4 g hg) dst hn r5
          refine ⟨v', w', ρ', r1, ?_⟩
          unfold Eff.on
          rw [memE_oldGone]
          exact hrel
        · exact (T.reach_fail hr).elim
      · exact (T.reach_fail hr).elim
    · exact (T.reach_fail hr).elim
  · exact (T.reach_fail hr).elim
end Go.Sx

/- The symbolic layer: make, slices of slices, lengths, places: as effects. -/
namespace Go.Sx
open Go.RowKit (Below)

theorem madeCells_zeros {st : Nat} {k : IntKind} {z : Array Value} (hz : z = (List.replicate st (Value.int k 0)).toArray) (hst : 0 < st) (n : Nat) : madeCells z n = (List.replicate n (Value.int k 0)).toArray := by
  subst hz
  apply Array.ext
  · simp [size_madeCells]
  · intro i h1 h2
    simp only [madeCells, Array.getElem_map, List.getElem_toArray, List.getElem_replicate]
    rw [getElem!_pos _ _ (by simp; exact Nat.mod_lt _ hst)]
    simp

def makeE (cx : Cx) (S : St) (t : TypeId) (x y : SV) : T Eff :=
  match cx.tab t with
  | some ti => match ti.d with
    | .slice e => match cx.tab e with
      | some te => match zeroOk (kindZ te.z) te.sz te.z, Nat.blt 0 te.sz with
        | true, true => match numOf x, numOf y with
          | some (_, _, l), some (_, _, c) => .need (0 ≤ l ∧ l ≤ c ∧ (te.bytes : Int) * c ≤ 281474976710656 ∧ c ≤ 9223372036854775807)
            (newE S (.vec true e (kindZ te.z) te.sz l.toNat (List.replicate (mulN l.toNat te.sz) 0)) none)
          | _, _ => .fail "make: numbers"
        | _, _ => .fail "make: an element"
      | none => .fail "make: the element's type"
    | _ => .fail "make: no slice"
  | none => .fail "make: type"

theorem make_sound {P : Program} {Γ : Gam} {cx : Cx} (hc : CxOk P Γ.G cx) {ρ : Env} {S : St} {a : Act} {w : World} (h : Rel Γ ρ S a w) {t : TypeId} {x y : SV} {e : Eff} (hr : T.Reach (makeE cx S t x y) e) (dst : Option Tmp) {n' : Nat} (hn : Γ.n0 ≤ n') :
    ∃ v' w' ρ', (Instr.makeSlice t (x.den ρ) (y.den ρ)).run P w = .ok v' w' ∧ Rel Γ ρ' { e.on S dst with next := n' } (a.put dst v') w' := by
  unfold makeE at hr
  split at hr
  · rename_i ti hti
    split at hr
    · rename_i el hd
      split at hr
      · rename_i te hte
        split at hr
        · rename_i hz hst
          have hst : 0 < te.sz := Nat.le_of_ble_eq_true hst
          split at hr
          · rename_i b1 k1 l b2 k2 c hx hy
            rw [T.reach_need] at hr
            obtain ⟨⟨h0, h1, h2, h3⟩, hr⟩ := hr
            obtain ⟨h4, h5, rfl⟩ := newE_spec hr
            have ok := hc.tab _ _ hte
            obtain ⟨j, i1, i2, i3, i4⟩ := ok.info
            have hu : P.underlying t = some (.slice el) := by rw [(hc.tab _ _ hti).und, hd]
            have hrun := run_make (P := P) w t el j (te.z.den ρ) hu i1 (i4 ρ) k1 k2 l c h0 h1 (by rw [i3]; exact h2) h3
            rw [← numOf_den hx ρ, ← numOf_den hy ρ] at hrun
            have hmz := madeCells_zeros (zeroOk_den hz ρ) hst (c.toNat * j.size)
            rw [hmz] at hrun
            have hlc : l.toNat ≤ c.toNat := by omega
            have own : (w.alloc (.cells (List.replicate (c.toNat * j.size) (Value.int (kindZ te.z) 0)).toArray el)).ownsRow Γ.w0.heap.size el te.sz (.slice (some ⟨w.heap.size, 0, none⟩) l.toNat c.toNat) l.toNat ((List.replicate (mulN l.toNat te.sz) 0).map (Value.int (kindZ te.z))) := by
              refine ⟨by simp [mulN_eq], .inr ⟨w.heap.size, c.toNat, _, rfl, h.below.size, heap_alloc_new w _, hlc, by simp only [maxLen]; omega, by simp [i2], ?_⟩⟩
              simp only [List.map_replicate, List.take_replicate, mulN_eq, i2]
              congr 1
              exact Nat.min_eq_left (Nat.mul_le_mul_right _ hlc)
            obtain ⟨ρ', hrel⟩ := h.newVec (o := none) (b := .vec true el (kindZ te.z) te.sz l.toNat (List.replicate (mulN l.toNat te.sz) 0)) (v := .slice (some ⟨w.heap.size, 0, none⟩) l.toNat c.toNat) (row := none) (World.grownBy_alloc w _ none) (fun g hg => by cases hg) (fun o' ho => by cases ho) h4 h5 rfl
              (fun ρ' e1 _ => by
                show VecOwm _ Γ.w0.heap.size el te.sz (ρ'.vec S.next) l.toNat _
                rw [e1]; exact .inl (VecOwn.of_owns own)) trivial (fun g hg => by
                simp only [physV] at hg
                split at hg
                · cases hg
                · cases hg; exact .inl (Nat.le_refl _)) dst hn rfl
            refine ⟨_, _, ρ', hrun, ?_⟩
            unfold Eff.on
            rw [memE_oldGone]
            exact hrel
          · exact (T.reach_fail hr).elim
        · exact (T.reach_fail hr).elim
      · exact (T.reach_fail hr).elim
    · exact (T.reach_fail hr).elim
  · exact (T.reach_fail hr).elim

/-! ### Slices of slices -/
def boundV (d : Nat) : Option SV → Option Int
  | none => some d
  | some v => match numOf v with
    | some (_, _, n) => some n
    | none => none

def isZero : Option SV → Bool
  | some (.lit _ n) => decide (n = 0)
  | _ => false

def sliE (cx : Cx) (S : St) (t : TypeId) (i : Nat) (lo hi mx : Option SV) : T Eff :=
  match cx.tab t with
  | some ti => match ti.d with
    | .slice e => match cx.tab e, vecAt S.mem i with
      | some te, some V => match Nat.beq te.sz V.st && Nat.blt 0 V.st, mx with
        | true, none => match boundV 0 lo, boundV V.n hi with
          | some l, some h => .need (0 ≤ l ∧ l ≤ h ∧ h ≤ V.n) (newE S (.view V.root V.st (match V.whole with
            | true => l.toNat
            | false => V.off + l.toNat) (h.toNat - l.toNat)) none)
          | _, _ => .fail "slice: bounds"
        | true, some m => match lo, isZero hi, isZero (some m) with
          | none, true, true => newE S (.vec true e V.k V.st 0 []) none
          | _, _, _ => .fail "slice: three bounds"
        | _, _ => .fail "slice: size"
      | _, _ => .fail "slice: what"
    | _ => .fail "slice: no slice"
  | none => .fail "slice: type"

theorem run_sliceBound {P : Program} {w : World} {k : IntKind} {i : Int} {m : Nat} {code : BoundsCode} (h0 : 0 ≤ i) (h1 : i ≤ m) : (Instr.sliceBound (.int k i) m code).run P w = .ok i.toNat w := by
  simp only [Instr.sliceBound, asIntOf, Sem.run_bind, Sem.run_pure, Result.andThen_ok, Sem.run_ite]
  rw [if_pos ⟨h0, h1⟩]

theorem run_bounds {P : Program} {w : World} {n c : Nat} {lo hi : Option SV} {l h : Int} (h1 : boundV 0 lo = some l) (h2 : boundV n hi = some h) (h3 : 0 ≤ l ∧ l ≤ h ∧ h ≤ n) (hnc : n ≤ c) (ρ : Env) :
    (Instr.sliceBounds true n c (lo.map (SV.den ρ)) (hi.map (SV.den ρ)) none).run P w = .ok (l.toNat, h.toNat, c) w := by
  unfold Instr.sliceBounds
  simp only [Sem.run_bind, Sem.run_pure, Result.andThen_ok]
  cases hi with
  | none =>
    simp [boundV] at h2
    subst h2
    cases lo with
    | none => simp [boundV] at h1; subst h1; simp
    | some v =>
      simp only [boundV] at h1
      split at h1
      · rename_i b k x hx
        cases h1
        have r := fun code => run_sliceBound (P := P) (w := w) (k := k) (i := l) (m := n) (code := code) h3.1 h3.2.1
        simp [numOf_den hx ρ, r]
      · cases h1
  | some u =>
    simp only [boundV] at h2
    split at h2
    · rename_i b' k' y hy
      cases h2
      have r1 := fun code => run_sliceBound (P := P) (w := w) (k := k') (i := h) (m := c) (code := code) (by omega) (by omega)
      cases lo with
      | none =>
        simp [boundV] at h1; subst h1
        simp [numOf_den hy ρ, r1]
      | some v =>
        simp only [boundV] at h1
        split at h1
        · rename_i b k x hx
          cases h1
          have r2 := fun code => run_sliceBound (P := P) (w := w) (k := k) (i := l) (m := h.toNat) (code := code) h3.1 (by omega)
          simp [numOf_den hy ρ, numOf_den hx ρ, r1, r2]
        · cases h1
    · cases h2

theorem isZero_spec {x : Option SV} (h : isZero x = true) : ∃ k, x = some (.lit k 0) := by
  unfold isZero at h
  split at h
  · have := of_decide_eq_true h; subst this; exact ⟨_, rfl⟩
  · cases h

theorem sli_sound {P : Program} {Γ : Gam} {cx : Cx} (hc : CxOk P Γ.G cx) {ρ : Env} {S : St} {a : Act} {w : World} (h : Rel Γ ρ S a w) {t : TypeId} {i : Nat} {lo hi mx : Option SV} {e : Eff} (hr : T.Reach (sliE cx S t i lo hi mx) e) (dst : Option Tmp) {n' : Nat} (hn : Γ.n0 ≤ n') :
    ∃ v' ρ', (Instr.sliceAt t ((SV.sl i).den ρ) (lo.map (SV.den ρ)) (hi.map (SV.den ρ)) (mx.map (SV.den ρ))).run P w = .ok v' w ∧ Rel Γ ρ' { e.on S dst with next := n' } (a.put dst v') w := by
  unfold sliE at hr
  split at hr
  · rename_i ti hti
    split at hr
    · rename_i el hd
      have hu : ∀ w, (underlying t).run P w = .ok (.slice el) w := fun w => by rw [run_und (hc.tab _ _ hti), hd]
      split at hr
      · rename_i te V hte hV
        have hs : ∀ w, (Go.sizeOf el).run P w = .ok te.sz w := fun w => run_size (hc.tab _ _ hte)
        obtain ⟨ao, c, e1, e2, e3⟩ := h.vec_at hV
        have hden : (SV.sl i).den ρ = .slice ao V.n c := by simp only [SV.den, e1]; rfl
        split at hr
        · rename_i hst
          simp only [Bool.and_eq_true] at hst
          obtain ⟨hst, hst0⟩ := hst
          have hst := Nat.eq_of_beq_eq_true hst
          have hst0 : 0 < V.st := Nat.le_of_ble_eq_true hst0
          split at hr
          · rename_i l hh hlo hhi
            rw [T.reach_need] at hr
            obtain ⟨hb, hr⟩ := hr
            obtain ⟨h4, h5, rfl⟩ := newE_spec hr
            have hrun : (Instr.sliceAt t ((SV.sl i).den ρ) (lo.map (SV.den ρ)) (hi.map (SV.den ρ)) none).run P w = .ok (.slice (if c = l.toNat then ao else ao.map (·.add (l.toNat * te.sz))) (hh.toNat - l.toNat) (c - l.toNat)) w := by
              rw [hden]
              simp only [Instr.sliceAt, Instr.slice, Sem.run_bind, hu, Result.andThen_ok, run_bounds hlo hhi hb e2 ρ, hs, Sem.run_pure]
            obtain ⟨n0, hroot⟩ := vecAt_root hV
            have hoff : (match V.whole with | true => l.toNat | false => V.off + l.toNat) = V.off + l.toNat := by
              cases hw : V.whole with
              | true => rw [vecAt_whole hV hw]; simp
              | false => rfl
            obtain ⟨ρ', hrel⟩ := h.newVec (o := none) (b := .view V.root V.st (match V.whole with | true => l.toNat | false => V.off + l.toNat) (hh.toNat - l.toNat)) (v := .slice (if c = l.toNat then ao else ao.map (·.add (l.toNat * te.sz))) (hh.toNat - l.toNat) (c - l.toNat)) (row := none)
              (w' := w) ⟨rfl, rfl, rfl, Nat.le_refl _, fun _ _ _ => rfl⟩ (fun g hg => by cases hg) (fun o' ho => by cases ho) h4 h5 rfl
              (fun ρ' f1 f2 => by
                have hne : V.root ≠ S.next := fun hh => by rw [hh, h4] at hroot; cases hroot
                show VecPart V.st (ρ'.vec V.root) _ (ρ'.vec S.next) _
                rw [f1, f2 _ hne, hoff]
                refine ⟨_, _, rfl, by omega, ?_⟩
                by_cases hn0 : hh.toNat - l.toNat = 0
                · exact .inl hn0
                · rcases e3 with e3 | ⟨g, o, m0, c0, k1, k2, k3, k4, k5⟩
                  · rcases Nat.mul_eq_zero.1 e3 with e3 | e3
                    · left; omega
                    · omega
                  · right
                    refine ⟨g, o, m0, c0, k1, ?_, by omega⟩
                    rw [if_neg (by omega), k2, Option.map_some, addv, hst, Nat.add_mul, Nat.add_assoc])
              (by simp [Blk.ids, St.has, hroot]) (fun g hg => by cases hg) dst hn rfl
            refine ⟨_, ρ', hrun, ?_⟩
            unfold Eff.on
            rw [memE_oldGone]
            exact hrel
          · exact (T.reach_fail hr).elim
        · rename_i m hst
          split at hr
          · rename_i hz hz'
            obtain ⟨k1, rfl⟩ := isZero_spec hz
            obtain ⟨k2, hm⟩ := isZero_spec hz'
            cases hm
            obtain ⟨h4, h5, rfl⟩ := newE_spec hr
            have hrun : (Instr.sliceAt t ((SV.sl i).den ρ) ((none : Option SV).map (SV.den ρ)) ((some (SV.lit k1 0)).map (SV.den ρ)) ((some (SV.lit k2 0)).map (SV.den ρ))).run P w = .ok (.slice ao 0 0) w := by
              rw [hden]
              simp only [Option.map_some, Option.map_none, SV.den]
              simp only [Instr.sliceAt, Instr.slice, Instr.sliceBounds, Sem.run_bind, hu, Result.andThen_ok, run_sliceBound (P := P) (w := w) (k := k2) (i := 0) (m := c) (Int.le_refl _) (by omega), run_sliceBound (P := P) (w := w) (k := k1) (i := 0) (m := (0 : Int).toNat) (Int.le_refl _) (by simp), hs, Sem.run_pure]
              simp
            obtain ⟨ρ', hrel⟩ := h.newVec (o := none) (b := .vec true el V.k V.st 0 []) (v := .slice ao 0 0) (row := none)
              (w' := w) ⟨rfl, rfl, rfl, Nat.le_refl _, fun _ _ _ => rfl⟩ (fun g hg => by cases hg) (fun o' ho => by cases ho) h4 h5 rfl
              (fun ρ' f1 f2 => by
                show VecOwm w _ el V.st (ρ'.vec S.next) 0 []
                rw [f1]
                exact .inl (.inl ⟨ao, rfl, rfl, rfl⟩)) trivial (fun g hg => by cases ao <;> cases hg) dst hn rfl
            refine ⟨_, ρ', hrun, ?_⟩
            unfold Eff.on
            rw [memE_oldGone]
            exact hrel
          · exact (T.reach_fail hr).elim
        · exact (T.reach_fail hr).elim
      · exact (T.reach_fail hr).elim
    · exact (T.reach_fail hr).elim
  · exact (T.reach_fail hr).elim
end Go.Sx

/- The symbolic layer: lengths, places, literals of slices. -/
namespace Go.Sx
open Go.RowKit (Below)

def lenV (cx : Cx) (S : St) (t : TypeId) (i : Nat) : T Eff :=
  match cx.tab t, vecAt S.mem i with
  | some ti, some V => match ti.d with
    | .slice _ => .ret ⟨.int .i64 V.n, []⟩
    | _ => .fail "len: no slice"
  | _, _ => .fail "len: type"

theorem lenV_sound {P : Program} {Γ : Gam} {cx : Cx} (hc : CxOk P Γ.G cx) {ρ : Env} {S : St} {a : Act} {w : World} (h : Rel Γ ρ S a w) {t : TypeId} {i : Nat} {e : Eff} (hr : T.Reach (lenV cx S t i) e) (ts : Array TypeId) (xs : Array Value) (ht : ts[0]? = some t) (T' : TypeId) (hx : xs[0]? = some ((SV.sl i).den ρ)) :
    ∃ v, e = ⟨v, []⟩ ∧ wf v ∧ v.ids S.has ∧ (Builtin.len_ ts T' xs).run P w = .ok (v.den ρ) w := by
  unfold lenV at hr
  split at hr
  · rename_i ti V hti hV
    split at hr
    · rename_i el hd
      rw [T.reach_ret] at hr; subst hr
      obtain ⟨ao, c, e1, e2, e3⟩ := h.vec_at hV
      have hden : (SV.sl i).den ρ = .slice ao V.n c := by simp only [SV.den, e1]; rfl
      rw [hden] at hx
      have hu : ∀ w, (underlying t).run P w = .ok (.slice el) w := fun w => by rw [run_und (hc.tab _ _ hti), hd]
      exact ⟨_, rfl, by simp only [wf], by simp [SV.ids], by simp [Builtin.len_, ht, hx, hu, SV.den, goInt]⟩
    · exact (T.reach_fail hr).elim
  · exact (T.reach_fail hr).elim

def idxV (cx : Cx) (S : St) (t : TypeId) (i : Nat) (x : SV) : T Eff :=
  match cx.tab t, vecAt S.mem i with
  | some ti, some V => match ti.d with
    | .slice e => match cx.tab e, numOf x with
      | some te, some (_, _, j) => match Nat.beq te.sz V.st, Nat.blt 0 V.st with
        | true, true => .need (0 ≤ j ∧ j < V.n) (.ret ⟨.vptr i (mulN j.toNat V.st), []⟩)
        | _, _ => .fail "index: size"
      | _, _ => .fail "index: what"
    | _ => .fail "index: no slice"
  | _, _ => .fail "index: type"

theorem vecAt_has {S : St} {i : Nat} {V : VI} (h : vecAt S.mem i = some V) : S.has i := by
  unfold vecAt at h
  simp only [St.has]
  split at h
  · rename_i hl; simp [hl]
  · rename_i hl; simp [hl]
  · cases h

theorem idxV_sound {P : Program} {Γ : Gam} {cx : Cx} (hc : CxOk P Γ.G cx) {ρ : Env} {S : St} {a : Act} {w : World} (h : Rel Γ ρ S a w) {t : TypeId} {i : Nat} {x : SV} {e : Eff} (hr : T.Reach (idxV cx S t i x) e) :
    ∃ v, e = ⟨v, []⟩ ∧ wf v ∧ v.ids S.has ∧ (Instr.indexAt t ((SV.sl i).den ρ) (x.den ρ)).run P w = .ok (v.den ρ) w := by
  unfold idxV at hr
  split at hr
  · rename_i ti V hti hV
    split at hr
    · rename_i el hd
      split at hr
      · rename_i te b k j hte hx
        split at hr
        · rename_i hst hst0
          have hst := Nat.eq_of_beq_eq_true hst
          have hst0 : 0 < V.st := Nat.le_of_ble_eq_true hst0
          rw [T.reach_need, T.reach_ret] at hr
          obtain ⟨⟨h0, h1⟩, rfl⟩ := hr
          obtain ⟨ao, c, e1, e2, e3⟩ := h.vec_at hV
          rcases e3 with e3 | ⟨g, o, n0, c0, k1, k2, -⟩
          · rcases Nat.mul_eq_zero.1 e3 with e3 | e3 <;> omega
          · subst k2
            refine ⟨_, rfl, by simp only [wf], by simp only [SV.ids]; exact vecAt_has hV, ?_⟩
            have hden : (SV.sl i).den ρ = .slice (some ⟨g, o + V.off * V.st, none⟩) V.n c := by simp only [SV.den, e1]; rfl
            rw [hden, run_index_slice (hc.tab _ _ hti) (hc.tab _ _ hte) hd (numOf_den hx ρ) h0 h1]
            simp only [SV.den, e1, cellV, mulN_eq, addv, hst]
        · exact (T.reach_fail hr).elim
      · exact (T.reach_fail hr).elim
    · exact (T.reach_fail hr).elim
  · exact (T.reach_fail hr).elim

def bldV (cx : Cx) (S : St) (t : TypeId) (len : Nat) (parts : List (Nat × SV)) : T Eff :=
  match cx.tab t with
  | some ti => match ti.d with
    | .slice e => match cx.tab e with
      | some te => match zeroOk (kindZ te.z) te.sz te.z, Nat.blt 0 te.sz, Nat.ble (len * te.sz) 65536 with
        | true, true, true => (fillS (fun i => some (i * te.sz, te.sz)) [.ints (kindZ te.z) (len * te.sz) (List.replicate (len * te.sz) 0)] parts).bind fun ps => match ps with
          | [.ints k _ l] => match decide (k = kindZ te.z) with
            | true => newE S (.vec true e k te.sz len l) none
            | false => .fail "a slice's literal: kinds"
          | _ => .fail "a slice's literal: parts"
        | _, _, _ => .fail "a slice's literal: an element"
      | none => .fail "a slice's literal: the element's type"
    | _ => .fail "a slice's literal: no slice"
  | none => .fail "a slice's literal: type"

theorem bld_sound {P : Program} {Γ : Gam} {cx : Cx} (hc : CxOk P Γ.G cx) {ρ : Env} {S : St} {a : Act} {w : World} (h : Rel Γ ρ S a w) {t : TypeId} {len : Nat} {parts : List (Nat × SV)} {e : Eff} (hw : ∀ x ∈ parts, wf x.2) (hr : T.Reach (bldV cx S t len parts) e) (dst : Option Tmp) {n' : Nat} (hn : Γ.n0 ≤ n') :
    ∃ v' w' ρ', (Instr.buildSlice t len (parts.map fun x => (x.1, x.2.den ρ)).toArray).run P w = .ok v' w' ∧ Rel Γ ρ' { e.on S dst with next := n' } (a.put dst v') w' := by
  unfold bldV at hr
  split at hr
  · rename_i ti hti
    split at hr
    · rename_i el hd
      split at hr
      · rename_i te hte
        split at hr
        · rename_i hz hst hle
          have hst : 0 < te.sz := Nat.le_of_ble_eq_true hst
          have hle := Nat.le_of_ble_eq_true hle
          rw [T.reach_bind] at hr
          obtain ⟨ps, hps, hr⟩ := hr
          have hat0 : ∀ q ∈ [SV.ints (kindZ te.z) (len * te.sz) (List.replicate (len * te.sz) 0)], isAtom q := fun q hq => by simp at hq; subst hq; simp [isAtom]
          obtain ⟨f1, f2, -⟩ := fillS_spec hat0 hw hps
          split at hr
          · rename_i k m l
            split at hr
            · rename_i hk
              have hk := of_decide_eq_true hk
              subst hk
              obtain ⟨h4, h5, rfl⟩ := newE_spec hr
              have hml := f2 (.ints (kindZ te.z) m l) (by simp)
              simp only [isAtom] at hml
              have hfill := f1 ρ
              have c0 : cellsL ρ [SV.ints (kindZ te.z) (len * te.sz) (List.replicate (len * te.sz) 0)] = List.replicate (len * te.sz) (Value.int (kindZ te.z) 0) := by simp [cellsL, SV.den, Value.cells]
              have c1 : cellsL ρ [SV.ints (kindZ te.z) m l] = l.map (Value.int (kindZ te.z)) := by simp [cellsL, SV.den, Value.cells]
              rw [c0, c1] at hfill
              have hsz : ∀ (place : Nat → Option (Nat × Nat)) (ps : List (Nat × Value)) (cs cs' : Array Value), Instr.fill place cs ps = some cs' → cs'.size = cs.size := by
                intro place ps
                induction ps with
                | nil => intro cs cs' hh; simp [Instr.fill] at hh; rw [hh]
                | cons p ps ih =>
                  intro cs cs' hh
                  obtain ⟨i, v⟩ := p
                  simp only [Instr.fill] at hh
                  split at hh
                  · cases hh
                  · split at hh
                    · cases hh
                    · have := ih _ _ hh
                      rw [this]
                      have key : ∀ (l : List (Value × Nat)) (off : Nat) (cs : Array Value), (l.foldl (fun cs (x : Value × Nat) => cs.setIfInBounds (off + x.2) x.1) cs).size = cs.size := by
                        intro l off
                        induction l with
                        | nil => intro cs; rfl
                        | cons a l ih => intro cs; simp only [List.foldl_cons, ih]; simp
                      rw [← Array.foldl_toList]
                      exact key _ _ _
              have hll : l.length = len * te.sz := by
                have := hsz _ _ _ _ hfill
                simpa using this
              have ok := hc.tab _ _ hte
              have hu : ∀ w, (underlying t).run P w = .ok (.slice el) w := fun w => by rw [run_und (hc.tab _ _ hti), hd]
              have hs : ∀ w, (Go.sizeOf el).run P w = .ok te.sz w := fun w => run_size ok
              have hrun : (Instr.buildSlice t len (parts.map fun x => (x.1, x.2.den ρ)).toArray).run P w = .ok (.slice (some ⟨w.heap.size, 0, none⟩) len len) (w.alloc (.cells (l.map (Value.int (kindZ te.z))).toArray el)) := by
                have hmz := madeCells_zeros (zeroOk_den hz ρ) hst (len * te.sz)
                unfold madeCells at hmz
                by_cases h0 : len * te.sz = 0
                · have hem : ((Array.range (len * te.sz)).map ((#[] : Array Value)[· % (#[] : Array Value).size]!)) = (List.replicate (len * te.sz) (Value.int (kindZ te.z) 0)).toArray := by rw [h0]; simp [Array.range_zero']
                  simp only [Instr.buildSlice, Sem.run_bind, hu, Result.andThen_ok, hs, Sem.run_ite]
                  rw [if_neg (by omega), if_pos h0]
                  simp only [Sem.run_bind, Sem.run_pure, Result.andThen_ok, hem, hfill, newRow, run_newObj]
                  rfl
                · simp only [Instr.buildSlice, Sem.run_bind, hu, Result.andThen_ok, hs, Sem.run_ite]
                  rw [if_neg (by omega), if_neg h0]
                  simp only [Sem.run_bind, Sem.run_pure, Result.andThen_ok, run_zero ok ρ, hmz, hfill, newRow, run_newObj]
                  rfl
              have own : (w.alloc (.cells (l.map (Value.int (kindZ te.z))).toArray el)).ownsRow Γ.w0.heap.size el te.sz (.slice (some ⟨w.heap.size, 0, none⟩) len len) len (l.map (Value.int (kindZ te.z))) := by
                refine ⟨by simpa using hll, .inr ⟨w.heap.size, len, _, rfl, h.below.size, heap_alloc_new w _, Nat.le_refl _, ?_, by simpa using hll, ?_⟩⟩
                · have : len ≤ len * te.sz := Nat.le_mul_of_pos_right _ hst
                  simp only [maxLen]; omega
                · simp only []
                  rw [List.take_of_length_le (by simp [hll])]
              obtain ⟨ρ', hrel⟩ := h.newVec (o := none) (b := .vec true el (kindZ te.z) te.sz len l) (v := .slice (some ⟨w.heap.size, 0, none⟩) len len) (row := none) (World.grownBy_alloc w _ none) (fun g hg => by cases hg) (fun o' ho => by cases ho) h4 h5 rfl
                (fun ρ' e1 _ => by
                  show VecOwm _ Γ.w0.heap.size el te.sz (ρ'.vec S.next) len _
                  rw [e1]; exact .inl (VecOwn.of_owns own)) trivial (fun g hg => by
                  simp only [physV] at hg
                  split at hg
                  · cases hg
                  · cases hg; exact .inl (Nat.le_refl _)) dst hn rfl
              refine ⟨_, _, ρ', hrun, ?_⟩
              unfold Eff.on
              rw [memE_oldGone]
              exact hrel
            · exact (T.reach_fail hr).elim
          · exact (T.reach_fail hr).elim
        · exact (T.reach_fail hr).elim
      · exact (T.reach_fail hr).elim
    · exact (T.reach_fail hr).elim
  · exact (T.reach_fail hr).elim

/-- The name under which it is told whether a vector is nil. -/
def nzK (i : Nat) : Nat := 500000 + i

def nilE (S : St) (eq : Bool) (cx : Cx) (t : TypeId) (i : Nat) : T Eff :=
  match look S.mem (nzK i), cx.tab t with
  | some (.nz p b), some ti => match Nat.beq p i, ti.d with
    | true, .slice _ => .ret ⟨.bool (b == eq), []⟩
    | _, _ => .fail "nil: whose"
  | _, _ => .fail "nil or not: not told"

theorem nilE_sound {P : Program} {Γ : Gam} {cx : Cx} (hc : CxOk P Γ.G cx) {ρ : Env} {S : St} {a : Act} {w : World} (h : Rel Γ ρ S a w) {eq : Bool} {t : TypeId} {i : Nat} {e : Eff} (hr : T.Reach (nilE S eq cx t i) e) :
    ∃ v, e = ⟨v, []⟩ ∧ wf v ∧ (∀ p, v.ids p) ∧ (binOp (cond eq .eql .neq) t ((SV.sl i).den ρ) (.slice none 0 0)).run P w = .ok (v.den ρ) w := by
  unfold nilE at hr
  split at hr
  · rename_i p b ti hl hti
    split at hr
    · rename_i el hp hd
      have hp := Nat.eq_of_beq_eq_true hp
      subst hp
      rw [T.reach_ret] at hr; subst hr
      obtain ⟨ao, n, c, h1, h2⟩ := show NilIs (ρ.vec p) b from (h.mem _ _ hl).1.vec
      have hu : P.underlying t = some (.slice el) := by rw [(hc.tab _ _ hti).und, hd]
      refine ⟨_, rfl, by simp only [wf], fun p => by simp [SV.ids], ?_⟩
      have hden : (SV.sl p).den ρ = .slice ao n c := by simp only [SV.den, h1]; rfl
      rw [hden]
      have hq : (Op.equal t (.slice ao n c) (.slice none 0 0)).run P w = .ok ao.isNone w := run_equal_slice_nil w t el ao n c hu
      cases eq with
      | true => simp [binOp, hq, SV.den, h2]
      | false => cases b <;> simp [binOp, hq, SV.den, h2]
    · exact (T.reach_fail hr).elim
  · exact (T.reach_fail hr).elim
end Go.Sx
