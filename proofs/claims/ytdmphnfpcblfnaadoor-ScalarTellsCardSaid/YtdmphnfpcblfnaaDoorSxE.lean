import Derived.Test.YtdmphnfpcblfnaaDoorSxD
import Derived.Laws.Sem
import Derived.Laws.StructEq
/- The symbolic layer, part E: operations that only compute. -/
namespace Go.Sx

/-- What is known of a type. -/
structure TyI where
  d : TypeDesc
  sz : Nat
  bytes : Nat
  z : SV
  pl : Bool

def TypeDesc.isAggB : TypeDesc → Bool
  | .struct _ => true
  | .array _ _ => true
  | _ => false

structure TyOk (P : Program) (t : TypeId) (i : TyI) : Prop where
  und : P.underlying t = some i.d
  info : ∃ j, P.info? t = some j ∧ j.size = i.sz ∧ j.bytes = i.bytes ∧ ∀ ρ, j.zero = some (i.z.den ρ)
  wf : wf i.z
  ids : ∀ p, i.z.ids p
  plain : i.pl = true → P.stoodInHeld t = false ∧ P.eqGuardType P.depth t = false ∧ ∀ fs, i.d = .struct fs → ∀ f ∈ fs.toList, f.name ≠ "_"

abbrev Tab := TypeId → Option TyI
def TabOk (P : Program) (tab : Tab) : Prop := ∀ t i, tab t = some i → TyOk P t i

section
variable {P : Program} {w : World}
theorem run_und {t : TypeId} {i : TyI} (h : TyOk P t i) : (underlying t).run P w = .ok i.d w := by
  simp [underlying, h.und]
theorem run_size {t : TypeId} {i : TyI} (h : TyOk P t i) : (sizeOf t).run P w = .ok i.sz w := by
  obtain ⟨j, h1, h2, -⟩ := h.info
  simp [sizeOf, typeInfo, h1, h2]
theorem run_isAgg {t : TypeId} {i : TyI} (h : TyOk P t i) : (isAgg t).run P w = .ok (TypeDesc.isAggB i.d) w := by
  simp only [isAgg, Sem.run_bind, run_und h, Result.andThen_ok]
  cases i.d <;> rfl
theorem run_zero {t : TypeId} {i : TyI} (h : TyOk P t i) (ρ : Env) : (zeroValue t).run P w = .ok (i.z.den ρ) w := by
  obtain ⟨j, h1, -, -, h2⟩ := h.info
  simp [zeroValue, typeInfo, h1, h2 ρ]
end

def numOf : SV → Option (Bool × IntKind × Int)
  | .lit k n => some (true, k, n)
  | .int k n => some (false, k, n)
  | _ => none

theorem numOf_den {v : SV} {b : Bool} {k : IntKind} {n : Int} (h : numOf v = some (b, k, n)) (ρ : Env) : v.den ρ = .int k n := by
  cases v <;> simp [numOf] at h <;> (obtain ⟨-, rfl, rfl⟩ := h; simp [SV.den])

def mkNum (lit : Bool) (k : IntKind) (n : Int) : SV :=
  match lit with
  | true => .lit k n
  | false => .int k n

theorem mkNum_den (lit : Bool) (k : IntKind) (n : Int) (ρ : Env) : (mkNum lit k n).den ρ = .int k n := by cases lit <;> simp [mkNum, SV.den]

def mkBool (lit : Bool) (b : Bool) : SV :=
  match lit with
  | true => match b with
    | true => .tt
    | false => .ff
  | false => .bool b

theorem mkBool_den (lit : Bool) (b : Bool) (ρ : Env) : (mkBool lit b).den ρ = .bool b := by cases lit <;> cases b <;> simp [mkBool, SV.den]

/-- A value that holds no place. -/
def plainV : SV → Prop
  | .lit _ _ | .int _ _ | .tt | .ff | .bool _ => True
  | _ => False

theorem plainV.wf {v : SV} (h : plainV v) : wf v := by cases v <;> first | (simp only [Sx.wf]; done) | exact h.elim
theorem plainV.ids {v : SV} (h : plainV v) (p : Nat → Prop) : v.ids p := by cases v <;> first | (simp [SV.ids]; done) | exact h.elim
theorem plain_num (b : Bool) (k : IntKind) (n : Int) : plainV (mkNum b k n) := by cases b <;> trivial
theorem plain_bool (b c : Bool) : plainV (mkBool b c) := by cases b <;> cases c <;> trivial

def bitsI (op : BinOp) (k : IntKind) (x y : Int) : Int :=
  match op with
  | .and => k.wrap (BitVec.ofInt k.bits x &&& BitVec.ofInt k.bits y).toNat
  | .or => k.wrap (BitVec.ofInt k.bits x ||| BitVec.ofInt k.bits y).toNat
  | .xor => k.wrap (BitVec.ofInt k.bits x ^^^ BitVec.ofInt k.bits y).toNat
  | _ => k.wrap (BitVec.ofInt k.bits x &&& ~~~ BitVec.ofInt k.bits y).toNat

def shlI (k : IntKind) (x y : Int) : Int := k.wrap (x * 2 ^ (min y.toNat k.bits))
def shrI (k : IntKind) (x y : Int) : Int := x.fdiv (2 ^ (min y.toNat k.bits))

/-- Two numbers. -/
def binN (op : BinOp) (lx : Bool) (k : IntKind) (x : Int) (ly : Bool) (k' : IntKind) (y : Int) : T SV :=
  match op with
  | .shl => match ly with
    | true => match decide (y < 0) with
      | false => .ret (mkNum lx k (shlI k x y))
      | true => .fail "shl"
    | false => .need (0 ≤ y) (.ret (.int k (shlI k x y)))
  | .shr => match ly with
    | true => match decide (y < 0) with
      | false => .ret (mkNum lx k (shrI k x y))
      | true => .fail "shr"
    | false => .need (0 ≤ y) (.ret (.int k (shrI k x y)))
  | op => match decide (k = k') with
    | false => .fail "binOp: kinds"
    | true => match op with
      | .add => .ret (mkNum (lx && ly) k (k.wrap (x + y)))
      | .sub => .ret (mkNum (lx && ly) k (k.wrap (x - y)))
      | .mul => .ret (mkNum (lx && ly) k (k.wrap (x * y)))
      | .and => .ret (mkNum (lx && ly) k (bitsI .and k x y))
      | .or => .ret (mkNum (lx && ly) k (bitsI .or k x y))
      | .xor => .ret (mkNum (lx && ly) k (bitsI .xor k x y))
      | .andNot => .ret (mkNum (lx && ly) k (bitsI .andNot k x y))
      | .quo => match ly with
        | true => match decide (y = 0) with
          | false => .ret (mkNum lx k (k.wrap (x.tdiv y)))
          | true => .fail "quo"
        | false => .need (¬ y = 0) (.ret (.int k (k.wrap (x.tdiv y))))
      | .rem => match ly with
        | true => match decide (y = 0) with
          | false => .ret (mkNum lx k (x.tmod y))
          | true => .fail "rem"
        | false => .need (¬ y = 0) (.ret (.int k (x.tmod y)))
      | .eql => .ret (mkBool (lx && ly) (x == y))
      | .neq => .ret (mkBool (lx && ly) (x != y))
      | .lss => .ret (mkBool (lx && ly) (decide (x < y)))
      | .leq => .ret (mkBool (lx && ly) (decide (x ≤ y)))
      | .gtr => .ret (mkBool (lx && ly) (decide (x > y)))
      | .geq => .ret (mkBool (lx && ly) (decide (x ≥ y)))
      | _ => .fail "binOp"

theorem binN_plain {op : BinOp} {lx : Bool} {k : IntKind} {x : Int} {ly : Bool} {k' : IntKind} {y : Int} {v : SV} (h : T.Reach (binN op lx k x ly k' y) v) : plainV v := by
  unfold binN at h
  repeat' split at h
  all_goals first
    | exact (T.reach_fail h).elim
    | (rw [T.reach_ret] at h; subst h; first | exact plain_num _ _ _ | exact plain_bool _ _)
    | (rw [T.reach_need, T.reach_ret] at h; obtain ⟨-, rfl⟩ := h; trivial)

theorem run_binN {P : Program} {w : World} {op : BinOp} {t : TypeId} {lx : Bool} {k : IntKind} {x : Int} {ly : Bool} {k' : IntKind} {y : Int} {v : SV} (h : T.Reach (binN op lx k x ly k' y) v) (ρ : Env) :
    (binOp op t (.int k x) (.int k' y)).run P w = .ok (v.den ρ) w := by
  unfold binN at h
  repeat' split at h
  all_goals first
    | exact (T.reach_fail h).elim
    | skip
  all_goals first
    | (rw [T.reach_need, T.reach_ret] at h; obtain ⟨hn, rfl⟩ := h)
    | (rw [T.reach_ret] at h; subst h)
  all_goals (try simp only [mkNum_den, mkBool_den, SV.den])
  all_goals (try (have hk := of_decide_eq_true (by assumption : decide (k = k') = true)))
  all_goals (try subst hk)
  all_goals (try simp [binOp, Op.intArith, Op.intDiv, Op.intBits, Op.intCmp, Op.shift, bitsI, shlI, shrI, *])
  all_goals (try omega)
  all_goals (intro hz; rename_i hd _; first | exact absurd hz (of_decide_eq_false hd) | (rename_i hd2; exact absurd hz (of_decide_eq_false hd2)) | simp_all)

/-- '&&', '||': of two truths, or of one and a constant. -/
def pickB (c : Bool) (a b : SV) : T SV :=
  match a, b with
  | .bool x, .bool y => .ret (.bool (cond c x y))
  | .bool x, .ff => .ret (.bool (c && x))
  | .tt, .bool y => .ret (.bool (c || y))
  | a, b => .ite c (.ret a) (.ret b)

theorem pickB_spec {c : Bool} {a b v : SV} (h : T.Reach (pickB c a b) v) : (∀ ρ, v.den ρ = if c then a.den ρ else b.den ρ) ∧ (wf a → wf b → wf v) ∧ (∀ p, a.ids p → b.ids p → v.ids p) := by
  unfold pickB at h
  split at h
  · rw [T.reach_ret] at h; subst h
    refine ⟨fun ρ => ?_, fun _ _ => by simp only [wf], fun p _ _ => by simp [SV.ids]⟩
    cases c <;> simp [SV.den]
  · rw [T.reach_ret] at h; subst h
    refine ⟨fun ρ => ?_, fun _ _ => by simp only [wf], fun p _ _ => by simp [SV.ids]⟩
    cases c <;> simp [SV.den]
  · rw [T.reach_ret] at h; subst h
    refine ⟨fun ρ => ?_, fun _ _ => by simp only [wf], fun p _ _ => by simp [SV.ids]⟩
    cases c <;> simp [SV.den]
  · rw [T.reach_ite] at h
    rcases h with ⟨rfl, h⟩ | ⟨rfl, h⟩
    · rw [T.reach_ret] at h; subst h; exact ⟨fun ρ => by simp, fun h _ => h, fun p h _ => h⟩
    · rw [T.reach_ret] at h; subst h; exact ⟨fun ρ => by simp, fun _ h => h, fun p _ h => h⟩

def mulN (i e : Nat) : Nat :=
  match e with
  | 1 => i
  | _ => i * e
theorem mulN_eq (i e : Nat) : mulN i e = i * e := by unfold mulN; split <;> simp

theorem SN.den_lit (n : Nat) (ρ : Env) : (SN.lit n).den ρ = n := rfl
theorem SN.den_opn (n : Nat) (ρ : Env) : (SN.opn n).den ρ = n := rfl

def addSN (x : SN) (o i : Nat) : Option (Nat × SN) :=   -- a literal place and an open one, moved by an open number
  match x with
  | .lit j => some (o + j, .opn i)
  | .opn j => some (o, .opn (j + i))
  | .var _ => none

/-- The address of an array's or a slice's element. -/
def indexS (tab : Tab) (t : TypeId) (x i : SV) : T SV :=
  match tab t with
  | none => .fail "indexAddr: type"
  | some ti => match ti.d, x with
    | .array n e, .ptr b o y => match tab e with
      | none => .fail "indexAddr: element"
      | some te => match i with
        | .lit _ j => match decide (0 ≤ j), Nat.blt j.toNat n with
          | true, true => .ret (.ptr b (o + j.toNat * te.sz) y)
          | _, _ => .fail "indexAddr: out of range"
        | .int _ j => .need (0 ≤ j ∧ j < n) (match addSN y o (mulN j.toNat te.sz) with
          | some (o', y') => .ret (.ptr b o' y')
          | none => .fail "indexAddr: at a capacity")
        | _ => .fail "indexAddr: index"
    | .slice e, .slice b o y len _ => match tab e with
      | none => .fail "indexAddr: element"
      | some te => match len with
        | .var _ => .fail "indexAddr: length"
        | .opn n => match i with
          | .lit _ j => .need (0 ≤ j ∧ j < n) (.ret (.ptr b (o + j.toNat * te.sz) y))
          | .int _ j => .need (0 ≤ j ∧ j < n) (match addSN y o (mulN j.toNat te.sz) with
            | some (o', y') => .ret (.ptr b o' y')
            | none => .fail "indexAddr: at a capacity")
          | _ => .fail "indexAddr: index"
        | .lit n => match i with
          | .lit _ j => match decide (0 ≤ j), Nat.blt j.toNat n with
            | true, true => .ret (.ptr b (o + j.toNat * te.sz) y)
            | _, _ => .fail "indexAddr: out of range"
          | .int _ j => .need (0 ≤ j ∧ j < n) (match addSN y o (mulN j.toNat te.sz) with
            | some (o', y') => .ret (.ptr b o' y')
            | none => .fail "indexAddr: at a capacity")
          | _ => .fail "indexAddr: index"
    | _, _ => .fail "indexAddr"

theorem add_none (b o n : Nat) : Addr.add ⟨b, o, none⟩ n = ⟨b, o + n, none⟩ := by
  unfold Addr.add; split
  · rename_i h; subst h; rfl
  · rfl

theorem addSN_spec {x : SN} {o i o' : Nat} {y' : SN} (h : addSN x o i = some (o', y')) (ρ : Env) : o' + y'.den ρ = o + x.den ρ + i ∧ ∀ p, y'.ids p := by
  unfold addSN at h
  split at h
  · simp at h; obtain ⟨rfl, rfl⟩ := h; simp [SN.den, SN.ids]
  · simp at h; obtain ⟨rfl, rfl⟩ := h; simp [SN.den, SN.ids]; omega
  · cases h

theorem run_index_array {P : Program} {w : World} {t e : TypeId} {n : Nat} {ti te : TyI} {b o : Nat} {i : Value} {k : IntKind} {j : Int} (ht : TyOk P t ti) (he : TyOk P e te) (hd : ti.d = .array n e) (hi : i = .int k j) (h0 : 0 ≤ j) (h1 : j < n) :
    (Instr.indexAt t (.pointer (some ⟨b, o, none⟩)) i).run P w = .ok (.pointer (some ⟨b, o + j.toNat * te.sz, none⟩)) w := by
  subst hi
  have hu : ∀ w, (underlying t).run P w = .ok (.array n e) w := fun w => by rw [run_und ht, hd]
  have hs : ∀ w, (sizeOf e).run P w = .ok te.sz w := fun w => run_size he
  simp [Instr.indexAt, asIntOf, hu, hs, Instr.sureAddr, h0, h1, add_none]

theorem run_index_slice {P : Program} {w : World} {t e : TypeId} {n c : Nat} {ti te : TyI} {b o : Nat} {i : Value} {k : IntKind} {j : Int} (ht : TyOk P t ti) (he : TyOk P e te) (hd : ti.d = .slice e) (hi : i = .int k j) (h0 : 0 ≤ j) (h1 : j < n) :
    (Instr.indexAt t (.slice (some ⟨b, o, none⟩) n c) i).run P w = .ok (.pointer (some ⟨b, o + j.toNat * te.sz, none⟩)) w := by
  subst hi
  have hu : ∀ w, (underlying t).run P w = .ok (.slice e) w := fun w => by rw [run_und ht, hd]
  have hs : ∀ w, (sizeOf e).run P w = .ok te.sz w := fun w => run_size he
  simp [Instr.indexAt, asIntOf, hu, hs, h0, h1, add_none]

theorem lit_range {j : Int} {n : Nat} (h0 : decide (0 ≤ j) = true) (h1 : Nat.blt j.toNat n = true) : 0 ≤ j ∧ j < n := by
  have a := of_decide_eq_true h0
  have b : j.toNat < n := Nat.le_of_ble_eq_true h1
  omega

theorem indexS_spec {P : Program} {tab : Tab} (hT : TabOk P tab) {t : TypeId} {x i v : SV} (h : T.Reach (indexS tab t x i) v) :
    wf v ∧ (∀ p, x.ids p → v.ids p) ∧ ∀ ρ w, (Instr.indexAt t (x.den ρ) (i.den ρ)).run P w = .ok (v.den ρ) w := by
  unfold indexS at h
  split at h
  · exact (T.reach_fail h).elim
  rename_i ti hti
  split at h
  · rename_i n e b o y hd
    split at h
    · exact (T.reach_fail h).elim
    rename_i te hte
    split at h
    · rename_i k j
      split at h
      · rename_i h0 h1
        rw [T.reach_ret] at h; subst h
        obtain ⟨h0, h1⟩ := lit_range h0 h1
        refine ⟨by simp only [wf], fun p hp => ?_, fun ρ w => ?_⟩
        · simp only [SV.ids] at *; exact hp
        · simp only [SV.den]
          rw [run_index_array (hT _ _ hti) (hT _ _ hte) hd rfl h0 h1]
          congr 4; omega
      · exact (T.reach_fail h).elim
    · rename_i k j
      rw [T.reach_need] at h
      obtain ⟨⟨h0, h1⟩, h⟩ := h
      split at h
      · rename_i o' y' ha
        rw [T.reach_ret] at h; subst h
        refine ⟨by simp only [wf], fun p hp => ?_, fun ρ w => ?_⟩
        · simp only [SV.ids] at *; exact ⟨hp.1, (addSN_spec ha ⟨id, id, id, fun _ => undef⟩).2 p⟩
        · simp only [SV.den]
          rw [run_index_array (hT _ _ hti) (hT _ _ hte) hd rfl h0 h1, (addSN_spec ha ρ).1, mulN_eq]
          congr 4; omega
      · exact (T.reach_fail h).elim
    · exact (T.reach_fail h).elim
  · rename_i e b o y len c hd
    split at h
    · exact (T.reach_fail h).elim
    rename_i te hte
    split at h
    · exact (T.reach_fail h).elim
    · rename_i n
      split at h
      · rename_i k j
        rw [T.reach_need, T.reach_ret] at h
        obtain ⟨⟨h0, h1⟩, rfl⟩ := h
        refine ⟨by simp only [wf], fun p hp => ?_, fun ρ w => ?_⟩
        · simp only [SV.ids] at *; exact ⟨hp.1, hp.2.1⟩
        · simp only [SV.den, SN.den_opn]
          rw [run_index_slice (hT _ _ hti) (hT _ _ hte) hd rfl h0 h1]
          congr 4; omega
      · rename_i k j
        rw [T.reach_need] at h
        obtain ⟨⟨h0, h1⟩, h⟩ := h
        split at h
        · rename_i o' y' ha
          rw [T.reach_ret] at h; subst h
          refine ⟨by simp only [wf], fun p hp => ?_, fun ρ w => ?_⟩
          · simp only [SV.ids] at *; exact ⟨hp.1, (addSN_spec ha ⟨id, id, id, fun _ => undef⟩).2 p⟩
          · have := (addSN_spec ha ρ).1
            simp only [SV.den, SN.den_opn]
            rw [run_index_slice (hT _ _ hti) (hT _ _ hte) hd rfl h0 h1, this, mulN_eq]
            congr 4; omega
        · exact (T.reach_fail h).elim
      · exact (T.reach_fail h).elim
    · rename_i n
      split at h
      · rename_i k j
        split at h
        · rename_i h0 h1
          rw [T.reach_ret] at h; subst h
          obtain ⟨h0, h1⟩ := lit_range h0 h1
          refine ⟨by simp only [wf], fun p hp => ?_, fun ρ w => ?_⟩
          · simp only [SV.ids] at *; exact ⟨hp.1, hp.2.1⟩
          · simp only [SV.den, SN.den_lit]
            rw [run_index_slice (hT _ _ hti) (hT _ _ hte) hd rfl h0 h1]
            congr 4; omega
        · exact (T.reach_fail h).elim
      · rename_i k j
        rw [T.reach_need] at h
        obtain ⟨⟨h0, h1⟩, h⟩ := h
        split at h
        · rename_i o' y' ha
          rw [T.reach_ret] at h; subst h
          refine ⟨by simp only [wf], fun p hp => ?_, fun ρ w => ?_⟩
          · simp only [SV.ids] at *; exact ⟨hp.1, (addSN_spec ha ⟨id, id, id, fun _ => undef⟩).2 p⟩
          · have := (addSN_spec ha ρ).1
            simp only [SV.den, SN.den_lit]
            rw [run_index_slice (hT _ _ hti) (hT _ _ hte) hd rfl h0 h1, this, mulN_eq]
            congr 4; omega
        · exact (T.reach_fail h).elim
      · exact (T.reach_fail h).elim
  · exact (T.reach_fail h).elim

/-- A part of a value: the cells from 'o' on, as a value of a type. -/
def partS (tab : Tab) (t : TypeId) (x : SV) (o : Nat) : T SV :=
  match tab t with
  | none => .fail "part: type"
  | some ti => (atomsOf x).bind fun ps => match TypeDesc.isAggB ti.d with
    | true => readSt ps o ti.sz false
    | false => match Nat.beq ti.sz 1 with
      | true => readSt ps o 1 true
      | false => .fail "part: size"

theorem idsL_mem {p : Nat → Prop} {l : List SV} {v : SV} (h : idsL p l) (hv : v ∈ l) : v.ids p := idsL_iff.1 h v hv

theorem gather_ids {p : Nat → Prop} {ps r : List SV} {c : Nat} (h : idsL p ps) (hg : gather ps c = some r) : idsL p r := by
  induction ps generalizing c r with
  | nil => cases c <;> simp [gather] at hg; subst hg; trivial
  | cons q ps ih =>
    simp only [idsL] at h
    cases c with
    | zero => simp [gather] at hg; subst hg; trivial
    | succ c' =>
      simp only [gather] at hg
      split at hg
      · split at hg
        · rename_i r' hr
          simp at hg; subst hg
          exact ⟨h.1, ih h.2 hr⟩
        · cases hg
      · split at hg
        · simp at hg; subst hg; simp [idsL, SV.ids]
        · cases hg

theorem skipTo_ids {p : Nat → Prop} {ps r : List SV} {c : Nat} (h : idsL p ps) (hg : skipTo ps c = some r) : idsL p r := by
  induction ps generalizing c r with
  | nil => cases c <;> simp [skipTo] at hg; subst hg; trivial
  | cons q ps ih =>
    have h' := h
    simp only [idsL] at h
    simp only [skipTo] at hg
    split at hg
    · exact ih h.2 hg
    · split at hg
      · simp at hg; subst hg; exact h'
      · split at hg
        · simp at hg; subst hg; exact ⟨by simp [SV.ids], h.2⟩
        · cases hg

theorem mkAgg_ids {p : Nat → Prop} {ps : List SV} (h : idsL p ps) : (mkAgg ps).ids p := by
  unfold mkAgg
  split
  · simp [SV.ids]
  · simpa [SV.ids] using h

theorem readWalk_ids {p : Nat → Prop} {ps : List SV} {o c : Nat} {v : SV} (h : idsL p ps) (hr : T.Reach (readWalk ps o c) v) : v.ids p := by
  unfold readWalk at hr
  split at hr
  · rename_i qs hq
    split at hr
    · rename_i rs hg
      rw [T.reach_ret] at hr; subst hr
      exact mkAgg_ids (gather_ids (skipTo_ids h hq) hg)
    · exact (T.reach_fail hr).elim
  · exact (T.reach_fail hr).elim

theorem readSt_ids {p : Nat → Prop} {ps : List SV} {o c : Nat} {sc : Bool} {v : SV} (h : idsL p ps) (hr : T.Reach (readSt ps o c sc) v) : v.ids p := by
  unfold readSt at hr
  split at hr
  · split at hr
    · rename_i bef q aft r hf
      obtain ⟨h1, -, -⟩ := findPart_spec hf
      split at hr
      · rw [T.reach_ret] at hr; subst hr; simp [SV.ids]
      · rw [T.reach_ret] at hr; subst hr
        exact idsL_mem h (by rw [h1]; simp)
    · exact (T.reach_fail hr).elim
  · split at hr
    · split at hr
      · split at hr <;> (rw [T.reach_ret] at hr; subst hr; simp [SV.ids])
      · exact readWalk_ids h hr
    · exact readWalk_ids h hr

theorem atomsOf_ids {p : Nat → Prop} {v : SV} {ps : List SV} (h : v.ids p) (hr : T.Reach (atomsOf v) ps) : idsL p ps := by
  cases v <;> simp only [atomsOf, T.reach_ret, T.reach_need] at hr
  case tup => exact (T.reach_fail hr).elim
  case junk => exact (T.reach_fail hr).elim
  case raw => obtain ⟨-, rfl⟩ := hr; simp [idsL, SV.ids]
  case agg => subst hr; simpa [SV.ids] using h
  all_goals (subst hr; simp_all [idsL, SV.ids])

theorem partS_spec {P : Program} {tab : Tab} (hT : TabOk P tab) {t : TypeId} {x v : SV} {o : Nat} (hx : wf x) (h : T.Reach (partS tab t x o) v) :
    wf v ∧ (∀ p, x.ids p → v.ids p) ∧ ∀ ρ w, (part t (x.den ρ).cells o).run P w = .ok (v.den ρ) w := by
  unfold partS at h
  split at h
  · exact (T.reach_fail h).elim
  rename_i ti hti
  rw [T.reach_bind] at h
  obtain ⟨ps, hps, h⟩ := h
  have hat := atomsOf_atoms hx hps
  have hu : ∀ w, (isAgg t).run P w = .ok (TypeDesc.isAggB ti.d) w := fun w => run_isAgg (hT _ _ hti)
  have hsz : ∀ w, (sizeOf t).run P w = .ok ti.sz w := fun w => run_size (hT _ _ hti)
  split at h
  · rename_i hagg
    have hg := fun ρ => got_st (ρ := ρ) (fun e => by cases e) hat h
    refine ⟨(hg ⟨id, id, id, fun _ => undef⟩).1, fun p hp => readSt_ids (atomsOf_ids hp hps) h, fun ρ w => ?_⟩
    obtain ⟨-, hg1, hg2⟩ := hg ρ
    have hc := atomsOf_cells (ρ := ρ) hps
    simp only [part, Sem.run_bind, hu, hagg, Result.andThen_ok, if_true, hsz, Sem.run_pure]
    rw [hg1, hc]
    congr 2
    apply Array.ext'
    simp [List.take_drop]
  · rename_i hagg
    split at h
    · have hg := fun ρ => got_st (ρ := ρ) (fun e => rfl) hat h
      refine ⟨(hg ⟨id, id, id, fun _ => undef⟩).1, fun p hp => readSt_ids (atomsOf_ids hp hps) h, fun ρ w => ?_⟩
      obtain ⟨-, hg1, -⟩ := hg ρ
      have hc := atomsOf_cells (ρ := ρ) hps
      rw [hc] at hg1
      simp only [part, Sem.run_bind, hu, hagg, Result.andThen_ok, Bool.false_eq_true, if_false]
      rw [← Array.getElem?_toList, hg1]; rfl
    · exact (T.reach_fail h).elim
end Go.Sx
