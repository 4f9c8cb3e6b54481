import Derived.Test.YtdmphnfpcblfnaaDoorSxTb
import Derived.ProofKit
import Derived.LaidMore
import Derived.OpenShut
import Derived.Stop.Joined
import Derived.JoinedOf
import Derived.RowKit
import Derived.Carry
import Derived.ChangeCalls
/- The symbolic layer: from a law's contract to its row. -/
namespace Go.Sx
open Go.RowKit (Below Below.trod Below.frame)
open Go.ChangeShapes

/-- A contract's kind fits a type. -/
def isCells (P : Program) (t : TypeId) : Bool := match P.underlying t with
  | some (.struct _) => true
  | some (.array _ _) => true
  | _ => false
def kindIs (P : Program) (k : IntKind) (u : TypeId) : Bool := match P.underlying u with
  | some (.int k') => decide (k' = k)
  | _ => false
def kindsAre (P : Program) : List IntKind → List TypeId → Bool
  | [], [] => true
  | k :: ks, u :: us => kindIs P k u && kindsAre P ks us
  | _, _ => false
def flatK : List (IntKind × Nat) → List IntKind
  | [] => []
  | (k, n) :: l => List.replicate n k ++ flatK l
def akOk (P : Program) (t : TypeId) : AK → Bool
  | .num k => kindIs P k t
  | .bool => match P.underlying t with
    | some .bool => true
    | _ => false
  | .ints k n => isCells P t && Nat.beq (P.cellsOf t) n && match P.cellTypes P.depth t with
    | some ts => kindsAre P (List.replicate n k) ts
    | none => false
  | .agg ks => isCells P t && Nat.beq (P.cellsOf t) (flatK ks).length && match P.cellTypes P.depth t with
    | some ts => kindsAre P (flatK ks) ts
    | none => false

def hasL (k : IntKind) (l : List Int) : Prop := ∀ x ∈ l, k.has x
def hasP : List (IntKind × Nat) → List (List Int) → Prop
  | (k, _) :: ks, l :: ls => hasL k l ∧ hasP ks ls
  | _, _ => True
def has1 : AK → AV → Prop
  | .num k, .n x => k.has x
  | .ints k _, .l xs => hasL k xs
  | .agg ks, .a ls => hasP ks ls
  | _, _ => True
def hasA : List AK → List AV → Prop
  | k :: ks, a :: xs => has1 k a ∧ hasA ks xs
  | _, _ => True

section
variable {P : Program} {w : World} {r : Reach} {base : Nat}

theorem kindIs_und {k : IntKind} {u : TypeId} (h : kindIs P k u = true) : P.underlying u = some (.int k) := by
  unfold kindIs at h
  split at h
  · rename_i k' hu; have := of_decide_eq_true h; subst this; exact hu
  · cases h

theorem cell_int {k : IntKind} {u : TypeId} {v : Value} (h : kindIs P k u = true) (hok : Cell.okWide P w r base u v) : ∃ x, v = .int k x ∧ k.has x := by
  have hu := kindIs_und h
  unfold Cell.okWide at hok
  rw [hu] at hok
  cases v <;> simp only [Cell.ok, hu] at hok <;> try exact hok.elim
  obtain ⟨rfl, h2⟩ := hok
  exact ⟨_, rfl, h2⟩

theorem cells_kinds : ∀ (kl : List IntKind) (ts : List TypeId) (cs : List Value), kindsAre P kl ts = true → cs.length = kl.length → (∀ (i : Nat) (v : Value), cs[i]? = some v → ∃ u, ts[i]? = some u ∧ Cell.okWide P w r base u v) →
    ∃ l : List Int, l.length = kl.length ∧ cs = (kl.zip l).map (fun p => Value.int p.1 p.2) ∧ ∀ p ∈ kl.zip l, p.1.has p.2
  | [], ts, cs, _, hl, _ => ⟨[], rfl, by simpa using hl, fun p hp => by cases hp⟩
  | k :: kl, [], cs, h, _, _ => by simp [kindsAre] at h
  | k :: kl, u :: ts, [], h, hl, _ => by simp at hl
  | k :: kl, u :: ts, c :: cs, h, hl, hc => by
    simp only [kindsAre, Bool.and_eq_true] at h
    obtain ⟨u', hu, hok⟩ := hc 0 c rfl
    simp at hu; subst hu
    obtain ⟨x, rfl, hx⟩ := cell_int h.1 hok
    obtain ⟨l, h1, h2, h3⟩ := cells_kinds kl ts cs h.2 (by simpa using hl) (fun i v hi => by
      have := hc (i + 1) v (by simpa using hi)
      simpa using this)
    refine ⟨x :: l, by simp [h1], by simp [h2], fun p hp => ?_⟩
    simp only [List.zip_cons_cons, List.mem_cons] at hp
    rcases hp with rfl | hp
    · exact hx
    · exact h3 p hp

theorem zip_replicate (n : Nat) (k : IntKind) (l : List Int) (h : l.length = n) : (List.replicate n k).zip l = l.map fun x => (k, x) := by
  induction l generalizing n with
  | nil => simp
  | cons x l ih =>
    obtain ⟨m, rfl⟩ : ∃ m, n = m + 1 := ⟨n - 1, by simp at h; omega⟩
    simp [List.replicate_succ, ih m (by simpa using h)]

theorem flat_parts (ρ : Env) : ∀ (ks : List (IntKind × Nat)) (l : List Int), l.length = (flatK ks).length → (∀ p ∈ (flatK ks).zip l, p.1.has p.2) →
    ∃ ls, lens ks ls ∧ hasP ks ls ∧ ((flatK ks).zip l).map (fun p => Value.int p.1 p.2) = cellsL ρ (partsOf ks ls)
  | [], l, _, _ => ⟨[], trivial, trivial, by simp [flatK, partsOf, cellsL]⟩
  | (k, n) :: ks, l, hl, hh => by
    simp only [flatK, List.length_append, List.length_replicate] at hl
    have hsplit : l = l.take n ++ l.drop n := (List.take_append_drop n l).symm
    have htl : (l.take n).length = n := by rw [List.length_take]; omega
    have hz : (flatK ((k, n) :: ks)).zip l = (l.take n).map (fun x => (k, x)) ++ (flatK ks).zip (l.drop n) := by
      conv => lhs; rw [hsplit]
      simp only [flatK]
      rw [List.zip_append (by simp [htl]), zip_replicate n k _ htl]
    rw [hz] at hh
    obtain ⟨ls, h1, h2, h3⟩ := flat_parts ρ ks (l.drop n) (by rw [List.length_drop]; omega) (fun p hp => hh p (by simp [hp]))
    refine ⟨l.take n :: ls, ⟨htl, h1⟩, ⟨fun x hx => ?_, h2⟩, ?_⟩
    · exact hh (k, x) (by simp only [List.mem_append, List.mem_map]; exact .inl ⟨x, hx, rfl⟩)
    · rw [hz]
      simp only [List.map_append, h3, partsOf, cellsL, SV.den, Value.cells, List.map_map]
      rfl

theorem row_cells {t : TypeId} {v : Value} {kl : List IntKind} (hc : isCells P t = true) (hn : P.cellsOf t = kl.length) (hts : (match P.cellTypes P.depth t with
    | some ts => kindsAre P kl ts
    | none => false) = true) (hok : Value.okWide P w r base t v) : ∃ l : List Int, v = .agg ((kl.zip l).map (fun p => Value.int p.1 p.2)).toArray ∧ l.length = kl.length ∧ ∀ p ∈ kl.zip l, p.1.has p.2 := by
  have key : ∃ cs, v = .agg cs ∧ cs.size = P.cellsOf t ∧ Row.okWide P w r base t cs := by
    unfold Value.okWide at hok
    unfold isCells at hc
    split at hc
    · rename_i fs hu; rw [hu] at hok; exact hok
    · rename_i n e hu; rw [hu] at hok; exact hok
    · cases hc
  obtain ⟨cs, rfl, hs, ts, ht, -, hall⟩ := key
  rw [ht] at hts
  have hlen : kl.length = ts.length := by
    have : ∀ (kl : List IntKind) (ts : List TypeId), kindsAre P kl ts = true → kl.length = ts.length := by
      intro kl
      induction kl with
      | nil => intro ts h; cases ts <;> simp [kindsAre] at *
      | cons k kl ih => intro ts h; cases ts with
        | nil => simp [kindsAre] at h
        | cons u ts => simp only [kindsAre, Bool.and_eq_true] at h; simp [ih ts h.2]
    exact this kl ts hts
  obtain ⟨l, h1, h2, h3⟩ := cells_kinds (P := P) (w := w) (r := r) (base := base) kl ts cs.toList hts (by simp [hs, hn]) (fun i v hi => by
    obtain ⟨u, hu, hok⟩ := hall i v (by simpa using hi)
    have hlt : i < cs.size := by
      have : i < cs.toList.length := (List.getElem?_eq_some_iff.1 hi).1
      simpa using this
    rw [Nat.mod_eq_of_lt (by omega)] at hu
    exact ⟨u, hu, hok⟩)
  refine ⟨l, ?_, h1, h3⟩
  congr 1
  apply Array.ext'
  simpa using h2

theorem open1 {t : TypeId} {v : Value} {k : AK} (hk : akOk P t k = true) (hok : Value.okWide P w r base t v) (ρ : Env) : ∃ a, fit1 k a ∧ has1 k a ∧ v = (can1 k a).den ρ := by
  cases k with
  | num k =>
    simp only [akOk] at hk
    have hu := kindIs_und hk
    unfold Value.okWide at hok
    rw [hu] at hok
    obtain ⟨x, rfl, hx⟩ := cell_int hk hok
    exact ⟨.n x, trivial, hx, by simp [can1, SV.den]⟩
  | bool =>
    simp only [akOk] at hk
    split at hk
    · rename_i hu
      unfold Value.okWide at hok
      rw [hu] at hok
      unfold Cell.okWide at hok
      rw [hu] at hok
      cases v <;> simp only [Cell.ok, hu] at hok <;> try exact hok.elim
      rename_i b
      exact ⟨.b b, trivial, trivial, by simp [can1, SV.den]⟩
    · cases hk
  | ints k n =>
    simp only [akOk, Bool.and_eq_true, Nat.beq_eq] at hk
    obtain ⟨⟨h1, h2⟩, h3⟩ := hk
    obtain ⟨l, rfl, hl, hh⟩ := row_cells (kl := List.replicate n k) h1 (by simpa using h2) h3 hok
    have hl : l.length = n := by simpa using hl
    rw [zip_replicate n k l hl] at hh ⊢
    refine ⟨.l l, hl, fun x hx => hh (k, x) (by simpa using hx), ?_⟩
    simp only [can1, SV.den, List.map_map]
    rfl
  | agg ks =>
    simp only [akOk, Bool.and_eq_true, Nat.beq_eq] at hk
    obtain ⟨⟨h1, h2⟩, h3⟩ := hk
    obtain ⟨l, rfl, hl, hh⟩ := row_cells (kl := flatK ks) h1 h2 h3 hok
    obtain ⟨ls, h4, h5, h6⟩ := flat_parts ρ ks l hl hh
    exact ⟨.a ls, h4, h5, by rw [h6]; simp only [can1, SV.den]⟩

def aksOk (P : Program) : List TypeId → List AK → Bool
  | [], [] => true
  | t :: ts, k :: ks => akOk P t k && aksOk P ts ks
  | _, _ => false

theorem openL (ρ : Env) : ∀ (ts : List TypeId) (ks : List AK) (vs : List Value), aksOk P ts ks = true → vs.length = ts.length → (∀ (j : Nat) t v, ts[j]? = some t → vs[j]? = some v → Value.okWide P w r base t v) →
    ∃ xs, fit ks xs ∧ hasA ks xs ∧ vs = denL ρ (can ks xs)
  | [], [], [], _, _, _ => ⟨[], trivial, trivial, by simp [can, denL]⟩
  | [], [], _ :: _, _, h, _ => by simp at h
  | [], _ :: _, _, h, _, _ => by simp [aksOk] at h
  | _ :: _, [], _, h, _, _ => by simp [aksOk] at h
  | _ :: _, _ :: _, [], _, h, _ => by simp at h
  | t :: ts, k :: ks, v :: vs, h, hl, hok => by
    simp only [aksOk, Bool.and_eq_true] at h
    obtain ⟨a, h1, h2, h3⟩ := open1 h.1 (hok 0 t v rfl rfl) ρ
    obtain ⟨xs, h4, h5, h6⟩ := openL ρ ts ks vs h.2 (by simpa using hl) (fun j t' v' ht hv => hok (j + 1) t' v' (by simpa using ht) (by simpa using hv))
    exact ⟨a :: xs, ⟨h1, h4⟩, ⟨h2, h5⟩, by simp only [can, denL, ← h3, ← h6]⟩
end

theorem parse1_can {k : AK} {a : AV} (h : fit1 k a) : parse1 k (can1 k a) = some a := by
  cases k <;> cases a <;> simp only [fit1] at h <;> try exact h.elim
  · simp [parse1, can1, asNum, numOf]
  · simp [parse1, can1, asInts]
  · simp [parse1, can1, boolOf]
  · rename_i ks ls
    have : ∀ (ks : List (IntKind × Nat)) (ls : List (List Int)), lens ks ls → asParts ks (partsOf ks ls) = some ls := by
      intro ks
      induction ks with
      | nil => intro ls h; cases ls with
        | nil => rfl
        | cons l ls => simp [lens] at h
      | cons k ks ih => intro ls h; cases ls with
        | nil => simp [lens] at h
        | cons l ls => simp [partsOf, asParts, asInts, ih ls h.2]
    simp [parse1, can1, this ks ls h]

theorem parse_can : ∀ {ks : List AK} {xs : List AV}, fit ks xs → parse ks (can ks xs) = some xs
  | [], [], _ => rfl
  | [], _ :: _, h => h.elim
  | _ :: _, [], h => h.elim
  | k :: ks, a :: xs, h => by simp only [can, parse, parse1_can h.1, parse_can h.2]

section
variable {H : Type} {enc : TypeId × Value → H} {P : Program}

/-- One closed fact: each parameter's type can be read and is a row of the table. -/
def rowed (P : Program) (ts : List TypeId) : Bool := ts.all fun t => P.readableRec t && decide (t < P.types.size)

theorem trodAll_stays (hl : laidOutB P = true) {W W' : World} (hb : Below W.heap.size W W') : ∀ {ts : List TypeId} {vs : List Value} {ds : List (DataW H)} {ps : List MemPlace}, rowed P ts = true →
    DataW.TrodAll enc P W 0 (fun _ => true) true ts vs ds ps → DataW.TrodAll enc P W' 0 (fun b => decide (b < W.heap.size)) true ts vs ds ps
  | [], [], [], _, _, h => h
  | [], [], _ :: _, _, _, h => h.elim
  | [], _ :: _, _, _, _, h => h.elim
  | _ :: _, [], _, _, _, h => h.elim
  | _ :: _, _ :: _, [], _, _, h => h.elim
  | t :: ts, v :: vs, d :: ds, ps, hr, h => by
    have hlt := h.lt
    obtain ⟨p, q, h1, h2, rfl⟩ := h
    simp only [rowed, List.all_cons, Bool.and_eq_true, decide_eq_true_eq] at hr
    exact ⟨p, q, Below.trod hl hr.1.1 hr.1.2 h1 hb (fun x hx => hlt x (by simp [hx])), trodAll_stays hl hb (by simpa [rowed] using hr.2) h2, rfl⟩

/-- **A law's contract gives its row's post-condition.** -/
theorem law_calls {G : World → Prop} {f : FuncId} {fn : Func} {s : ChangeSpec} {ks : List AK} {pre : List AV → Prop} {rt : TypeId} (h : FnOk P G f (ct ks pre [.bool] (fun _ => [.b true])))
    (hl : laidOutB P = true) (hks : aksOk P fn.params.toList ks = true) (hrow : rowed P fn.params.toList = true) (hres : fn.resultTypes.toList = [rt]) (hbool : P.underlying rt = some .bool) (hvars : s.vars = [])
    (hs : ∀ ds : List (DataW H), ds.length = fn.params.toList.length → s.fn H ds = { results := [.lit (.bool true)], args := ds })
    (hpre : ∀ xs, fit ks xs → hasA ks xs → pre xs)
    {W : World} {base : Nat} {args : Array Value} {ds gs : List (DataW H)} {before : List MemPlace}
    (hval : ∀ (j : Nat) t v, fn.params[j]? = some t → args[j]? = some v → Value.okWide P W .any base t v)
    (hW : DataW.Whole enc P fn.params.toList s.vars false W args.toList ds gs before) (hG : G W) :
    Calls P f args W fun e W' => ∃ v, e = .returned v ∧ s.post enc P fn false true false false W args v W' := by
  let ρ : Env := ⟨id, id, id, fun _ => undef⟩
  have hW' := hW
  obtain ⟨p, q, hA, hV, rfl, -, -⟩ := hW
  obtain ⟨hlen1, hlen2⟩ := trodAll_length hA
  obtain ⟨xs, h1, h2, h3⟩ := openL (P := P) (w := W) (r := .any) (base := base) ρ fn.params.toList ks args.toList hks hlen1 (fun j t v ht hv => hval j t v (by simpa using ht) (by simpa using hv))
  have hgs : gs = [] ∧ q = [] := by
    rw [hvars] at hV
    cases gs with
    | nil => exact ⟨rfl, hV⟩
    | cons g r => exact absurd hV (by intro h; cases h)
  obtain ⟨rfl, rfl⟩ := hgs
  have hreach : T.Reach (ct ks pre [.bool] (fun _ => [.b true]) (can ks xs)) (.bool true) := by
    unfold ct spG
    rw [parse_can h1]
    simp only [ctF, T.reach_need, T.reach_ret]
    exact ⟨hpre xs h1 h2, rfl⟩
  have hc := h.call (can ks xs) (.bool true) (fun x hx => (can_closed h1 x hx).wf) hreach ρ W hG
  have ha : args = (denL ρ (can ks xs)).toArray := by apply Array.ext'; simpa using h3
  rw [← ha] at hc
  refine hc.mono fun e W' ⟨he, hb⟩ => ?_
  subst he
  have hfn := hs ds hlen2
  refine ⟨_, rfl, ds, [], p ++ [], [], p, [], hW', ?_, ?_, ?_, hb.frame _, fun h => by cases h⟩
  · rw [List.append_nil, hfn]
    have hsz : fn.resultTypes.size = 1 := by rw [← Array.length_toList, hres]; rfl
    rw [hres, hsz]
    have : (SV.den ρ (.bool true)).resultList 1 = [.bool true] := by simp [SV.den, Value.resultList]
    rw [this]
    exact trodAll_mk1 (Go.RowKit.shut_bool hbool true)
  · rw [List.append_nil, hfn]
    exact trodAll_stays hl hb hrow hA
  · rw [List.append_nil, hfn, hvars]
    rfl
end
end Go.Sx
