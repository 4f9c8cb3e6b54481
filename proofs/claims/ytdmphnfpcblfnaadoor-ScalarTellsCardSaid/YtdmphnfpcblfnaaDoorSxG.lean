import Derived.Test.YtdmphnfpcblfnaaDoorSxF
/- The symbolic layer, part G: one operation. -/
namespace Go.Sx
open Go.RowKit (Below)

def convertS (tab : Tab) (src dst : TypeId) (x : SV) : T SV :=
  match tab src, tab dst with
  | some _, some td => match td.d, numOf x with
    | .int k, some (l, _, n) => .ret (mkNum l k (k.wrap n))
    | _, _ => .fail "convert"
  | _, _ => .fail "convert: type"

theorem convertS_spec {P : Program} {tab : Tab} (hT : TabOk P tab) {src dst : TypeId} {x v : SV} (h : T.Reach (convertS tab src dst x) v) :
    plainV v ∧ ∀ ρ w, (convert src dst (x.den ρ)).run P w = .ok (v.den ρ) w := by
  unfold convertS at h
  split at h
  · rename_i ts td hs hd
    split at h
    · rename_i k l k' n hk hn
      rw [T.reach_ret] at h; subst h
      refine ⟨plain_num _ _ _, fun ρ w => ?_⟩
      have h1 : (underlying src).run P w = .ok ts.d w := run_und (hT _ _ hs)
      have h2 : (underlying dst).run P w = .ok (.int k) w := by rw [run_und (hT _ _ hd), hk]
      rw [numOf_den hn, mkNum_den]
      simp [convert, h1, h2, Conv.intToInt]
    · exact (T.reach_fail h).elim
  · exact (T.reach_fail h).elim

def unS (op : UnOp) (x : SV) : T SV :=
  match op, x with
  | .not, .tt => .ret .ff
  | .not, .ff => .ret .tt
  | .not, .bool b => .ret (.bool (!b))
  | .neg, x => match numOf x with
    | some (l, k, n) => .ret (mkNum l k (k.wrap (0 - n)))
    | none => .fail "neg"
  | .xor, x => match numOf x with
    | some (l, k, n) => .ret (mkNum l k (bitsI .xor k (if k.signed then -1 else k.max) n))
    | none => .fail "xor"
  | _, _ => .fail "unOp"

theorem unS_spec {P : Program} {op : UnOp} {x v : SV} (h : T.Reach (unS op x) v) : plainV v ∧ ∀ ρ w, (Op.unary op (x.den ρ)).run P w = .ok (v.den ρ) w := by
  unfold unS at h
  split at h
  · rw [T.reach_ret] at h; subst h; exact ⟨trivial, fun ρ w => by simp [SV.den, Op.unary]⟩
  · rw [T.reach_ret] at h; subst h; exact ⟨trivial, fun ρ w => by simp [SV.den, Op.unary]⟩
  · rw [T.reach_ret] at h; subst h; exact ⟨trivial, fun ρ w => by simp [SV.den, Op.unary]⟩
  · split at h
    · rename_i l k n hn
      rw [T.reach_ret] at h; subst h
      refine ⟨plain_num _ _ _, fun ρ w => ?_⟩
      rw [numOf_den hn, mkNum_den]; simp [Op.unary, Op.intArith]
    · exact (T.reach_fail h).elim
  · split at h
    · rename_i l k n hn
      rw [T.reach_ret] at h; subst h
      refine ⟨plain_num _ _ _, fun ρ w => ?_⟩
      rw [numOf_den hn, mkNum_den]; simp [Op.unary, Op.intBits, bitsI]
    · exact (T.reach_fail h).elim
  · exact (T.reach_fail h).elim

/-- A bound of a slice expression that is written out. -/
def boundS (d : Nat) : Option SV → Option Nat
  | none => some d
  | some (.lit _ n) => match decide (0 ≤ n) with
    | true => some n.toNat
    | false => none
  | _ => none

/-- A slice of an array that lies in memory, its bounds written out. -/
def sliceS (tab : Tab) (t : TypeId) (x : SV) (lo hi : Option SV) : T SV :=
  match tab t with
  | none => .fail "slice: type"
  | some ti => match ti.d, x with
    | .array n e, .ptr b o y => match tab e, boundS 0 lo, boundS n hi with
      | some te, some l, some h => match Nat.ble h n, Nat.ble l h with
        | true, true => .ret (.slice b (match Nat.beq n l with
          | true => o
          | false => o + l * te.sz) y (.lit (h - l)) (.lit (n - l)))
        | _, _ => .fail "slice: out of range"
      | _, _, _ => .fail "slice: bounds"
    | _, _ => .fail "slice: what"

theorem run_bound {P : Program} {w : World} {d m : Nat} {x : Option SV} {n : Nat} {code : BoundsCode} (h : boundS d x = some n) (hm : n ≤ m) (ρ : Env) :
    (match x.map (SV.den ρ) with | some v => Instr.sliceBound v m code | none => pure d : Sem Nat).run P w = .ok n w := by
  unfold boundS at h
  split at h
  · simp at h; subst h; simp
  · rename_i k i
    split at h
    · rename_i h0
      have h0 := of_decide_eq_true h0
      simp at h; subst h
      simp only [Option.map_some, SV.den, Instr.sliceBound, asIntOf, Sem.run_bind, Sem.run_pure, Result.andThen_ok, Sem.run_ite]
      rw [if_pos (by omega)]
    · cases h
  · cases h

theorem sliceS_spec {P : Program} {tab : Tab} (hT : TabOk P tab) {t : TypeId} {x v : SV} {lo hi : Option SV} (h : T.Reach (sliceS tab t x lo hi) v) :
    wf v ∧ (∀ p, x.ids p → v.ids p) ∧ ∀ ρ w, (Instr.sliceAt t (x.den ρ) (lo.map (SV.den ρ)) (hi.map (SV.den ρ)) none).run P w = .ok (v.den ρ) w := by
  unfold sliceS at h
  split at h
  · exact (T.reach_fail h).elim
  rename_i ti hti
  split at h
  · rename_i n e b o y hd
    split at h
    · rename_i te l hh hte hl hhh
      split at h
      · rename_i h1 h2
        have h1 := Nat.le_of_ble_eq_true h1
        have h2 := Nat.le_of_ble_eq_true h2
        rw [T.reach_ret] at h; subst h
        refine ⟨by simp only [wf], fun p hp => ?_, fun ρ w => ?_⟩
        · simp only [SV.ids, SN.ids] at *; exact ⟨hp.1, hp.2, trivial, trivial⟩
        · have hu : ∀ w, (underlying t).run P w = .ok (.array n e) w := fun w => by rw [run_und (hT _ _ hti), hd]
          have hs : ∀ w, (sizeOf e).run P w = .ok te.sz w := fun w => run_size (hT _ _ hte)
          have b1 : (Instr.sliceBounds false n n (lo.map (SV.den ρ)) (hi.map (SV.den ρ)) none).run P w = .ok (l, hh, n) w := by
            have r1 := run_bound (P := P) (w := w) (code := .sliceAlen) hhh h1 ρ
            have r2 := run_bound (P := P) (w := w) (code := .sliceB) hl h2 ρ
            unfold Instr.sliceBounds
            simp only [Sem.run_bind, Sem.run_pure, Result.andThen_ok]
            cases hi with
            | none =>
              cases lo with
              | none => simp [boundS] at hhh hl ⊢; exact ⟨hl, hhh⟩
              | some z =>
                simp only [Option.map_some, Option.map_none] at r1 r2 ⊢
                simp [boundS] at hhh; subst hhh
                simp [r2]
            | some u =>
              cases lo with
              | none =>
                simp only [Option.map_some, Option.map_none] at r1 r2 ⊢
                simp [boundS] at hl; subst hl
                simp [r1]
              | some z =>
                simp only [Option.map_some] at r1 r2 ⊢
                simp [r1, r2]
          simp only [SV.den, Instr.sliceAt, Sem.run_bind, hu, Result.andThen_ok, Instr.sureAddr, Sem.run_pure, b1, hs, SN.den_lit, add_none]
          congr 4
          split
          · rename_i hnl
            subst hnl
            rw [Nat.beq_refl]
          · rename_i hnl
            rw [beq_no hnl]
            dsimp only
            congr 1; omega
      · exact (T.reach_fail h).elim
    · exact (T.reach_fail h).elim
  · exact (T.reach_fail h).elim

def extractS (x : SV) (i : Nat) : T SV :=
  match x with
  | .tup ps => match ps[i]? with
    | some v => .ret v
    | none => .fail "extract: no such part"
  | _ => .fail "extract: no tuple"

/-- 'len'. -/
def lenS (tab : Tab) (t : TypeId) (x : SV) : T SV :=
  match tab t with
  | none => .fail "len: type"
  | some ti => match ti.d, x with
    | .slice _, .slice _ _ _ len _ => match len with
      | .lit n => .ret (.lit .i64 n)
      | .opn n => .ret (.int .i64 n)
      | .var _ => .fail "len: a capacity"
    | .slice _, .raw (.slice _ n _) => .ret (.lit .i64 n)
    | .array n _, _ => .ret (.lit .i64 n)
    | .string, .raw (.string s) => .ret (.int .i64 s.size)
    | _, _ => .fail "len: of what"

theorem lenS_spec {P : Program} {tab : Tab} (hT : TabOk P tab) {t : TypeId} {x v : SV} (h : T.Reach (lenS tab t x) v) (ts : Array TypeId) (xs : Array Value) (ht : ts[0]? = some t) (T' : TypeId) :
    plainV v ∧ ∀ ρ w, xs[0]? = some (x.den ρ) → (Builtin.len_ ts T' xs).run P w = .ok (v.den ρ) w := by
  unfold lenS at h
  split at h
  · exact (T.reach_fail h).elim
  rename_i ti hti
  have hu : ∀ w, (underlying t).run P w = .ok ti.d w := fun w => run_und (hT _ _ hti)
  split at h
  · rename_i hd
    split at h
    · rw [T.reach_ret] at h; subst h
      exact ⟨trivial, fun ρ w hx => by simp [Builtin.len_, ht, hx, hu, hd, SV.den, SN.den, goInt]⟩
    · rw [T.reach_ret] at h; subst h
      exact ⟨trivial, fun ρ w hx => by simp [Builtin.len_, ht, hx, hu, hd, SV.den, SN.den, goInt]⟩
    · exact (T.reach_fail h).elim
  · rename_i hd
    rw [T.reach_ret] at h; subst h
    exact ⟨trivial, fun ρ w hx => by simp [Builtin.len_, ht, hx, hu, hd, SV.den, goInt]⟩
  · rename_i hd
    rw [T.reach_ret] at h; subst h
    exact ⟨trivial, fun ρ w hx => by simp [Builtin.len_, ht, hx, hu, hd, SV.den, goInt]⟩
  · rename_i hd
    rw [T.reach_ret] at h; subst h
    exact ⟨trivial, fun ρ w hx => by simp [Builtin.len_, ht, hx, hu, hd, SV.den, goInt]⟩
  · exact (T.reach_fail h).elim

/-- The address of a field. -/
def fieldAddrS (tab : Tab) (s : TypeId) (x : SV) (f : Nat) : T SV :=
  match tab s with
  | none => .fail "fieldAddr: type"
  | some ti => match ti.d, x with
    | .struct fs, .ptr b o y => match fs[f]? with
      | some fl => match tab fl.type with
        | some tf => match Nat.beq tf.sz 0 with
          | true => .fail "fieldAddr: a field of no size"
          | false => .ret (.ptr b (o + fl.offset) y)
        | none => .fail "fieldAddr: the field's type"
      | none => .fail "fieldAddr: no such field"
    | _, _ => .fail "fieldAddr: what"

theorem fieldAddrS_spec {P : Program} {tab : Tab} (hT : TabOk P tab) {s : TypeId} {x v : SV} {f : Nat} (h : T.Reach (fieldAddrS tab s x f) v) :
    wf v ∧ (∀ p, x.ids p → v.ids p) ∧ ∀ ρ w, (Instr.fieldAt s (x.den ρ) f).run P w = .ok (v.den ρ) w := by
  unfold fieldAddrS at h
  split at h
  · exact (T.reach_fail h).elim
  rename_i ti hti
  split at h
  · rename_i fs b o y hd
    split at h
    · rename_i fl hfl
      split at h
      · rename_i tf htf
        split at h
        · exact (T.reach_fail h).elim
        · rename_i hz
          have hz : tf.sz ≠ 0 := fun e => by rw [e] at hz; cases hz
          rw [T.reach_ret] at h; subst h
          refine ⟨by simp only [wf], fun p hp => by simpa only [SV.ids] using hp, fun ρ w => ?_⟩
          have hu : (underlying s).run P w = .ok (.struct fs) w := by rw [run_und (hT _ _ hti), hd]
          have hs : (sizeOf fl.type).run P w = .ok tf.sz w := run_size (hT _ _ htf)
          simp only [SV.den, Instr.fieldAt, Sem.run_bind, hu, Result.andThen_ok, hfl, Instr.sureAddr, Sem.run_pure, fieldPlace, hs, Sem.run_ite, hz, if_false, add_none]
          congr 4; omega
      · exact (T.reach_fail h).elim
    · exact (T.reach_fail h).elim
  · exact (T.reach_fail h).elim

/-- A field of a value. -/
def fieldS (tab : Tab) (s : TypeId) (x : SV) (f : Nat) : T SV :=
  match tab s with
  | none => .fail "field: type"
  | some ti => match ti.d, x with
    | .struct fs, .agg _ => match fs[f]? with
      | some fl => partS tab fl.type x fl.offset
      | none => .fail "field: no such field"
    | .struct fs, .ints _ _ _ => match fs[f]? with
      | some fl => partS tab fl.type x fl.offset
      | none => .fail "field: no such field"
    | _, _ => .fail "field: what"

theorem fieldS_spec {P : Program} {tab : Tab} (hT : TabOk P tab) {s : TypeId} {x v : SV} {f : Nat} (hx : wf x) (h : T.Reach (fieldS tab s x f) v) :
    wf v ∧ (∀ p, x.ids p → v.ids p) ∧ ∀ ρ w, (Instr.field s (x.den ρ) f).run P w = .ok (v.den ρ) w := by
  unfold fieldS at h
  split at h
  · exact (T.reach_fail h).elim
  rename_i ti hti
  split at h
  · rename_i fs ps hd
    split at h
    · rename_i fl hfl
      obtain ⟨h1, h2, h3⟩ := partS_spec hT hx h
      refine ⟨h1, h2, fun ρ w => ?_⟩
      have hu : (underlying s).run P w = .ok (.struct fs) w := by rw [run_und (hT _ _ hti), hd]
      have := h3 ρ w
      simp only [SV.den, Value.cells] at this
      simp [SV.den, Instr.field, hu, hfl, asAgg, this]
    · exact (T.reach_fail h).elim
  · rename_i fs k n l hd
    split at h
    · rename_i fl hfl
      obtain ⟨h1, h2, h3⟩ := partS_spec hT hx h
      refine ⟨h1, h2, fun ρ w => ?_⟩
      have hu : (underlying s).run P w = .ok (.struct fs) w := by rw [run_und (hT _ _ hti), hd]
      have := h3 ρ w
      simp only [SV.den, Value.cells] at this
      simp [SV.den, Instr.field, hu, hfl, asAgg, this]
    · exact (T.reach_fail h).elim
  · exact (T.reach_fail h).elim

/-- An element of an array that is a value: at a place that is written out, or of a list of numbers. -/
def indexVS (tab : Tab) (t : TypeId) (x i : SV) : T SV :=
  match tab t with
  | none => .fail "index: type"
  | some ti => match ti.d with
    | .array n e => match x with
      | .ints k m l => match i with
        | .lit _ j => match decide (0 ≤ j), Nat.blt j.toNat n with
          | true, true => match tab e with
            | some te => partS tab e x (j.toNat * te.sz)
            | none => .fail "index: element"
          | _, _ => .fail "index: out of range"
        | .int _ j => match tab e with
          | some te => match te.d with
            | .int _ => match Nat.beq te.sz 1, Nat.beq m n with
              | true, true => .need (0 ≤ j ∧ j < n) (.ret (.int k (l.getD j.toNat 0)))
              | _, _ => .fail "index: size"
            | _ => .fail "index: an open place"
          | none => .fail "index: element"
        | _ => .fail "index: what place"
      | .agg _ => match i with
        | .lit _ j => match decide (0 ≤ j), Nat.blt j.toNat n with
          | true, true => match tab e with
            | some te => partS tab e x (j.toNat * te.sz)
            | none => .fail "index: element"
          | _, _ => .fail "index: out of range"
        | _ => .fail "index: what place"
      | _ => .fail "index: of what"
    | _ => .fail "index: no array"

theorem run_indexV {P : Program} {w : World} {t e : TypeId} {n : Nat} {ti te : TyI} {cs : Array Value} {i : Value} {k : IntKind} {j : Int} (ht : TyOk P t ti) (he : TyOk P e te) (hd : ti.d = .array n e) (hi : i = .int k j) (h0 : 0 ≤ j) (h1 : j < n) :
    (Instr.index t (.agg cs) i).run P w = (part e cs (j.toNat * te.sz)).run P w := by
  subst hi
  have hu : ∀ w, (underlying t).run P w = .ok (.array n e) w := fun w => by rw [run_und ht, hd]
  have hs : ∀ w, (sizeOf e).run P w = .ok te.sz w := fun w => run_size he
  simp [Instr.index, asIntOf, hu, hs, h0, h1]

theorem indexVS_spec {P : Program} {tab : Tab} (hT : TabOk P tab) {t : TypeId} {x i v : SV} (hx : wf x) (h : T.Reach (indexVS tab t x i) v) :
    wf v ∧ (∀ p, x.ids p → v.ids p) ∧ ∀ ρ w, (Instr.index t (x.den ρ) (i.den ρ)).run P w = .ok (v.den ρ) w := by
  unfold indexVS at h
  split at h
  · exact (T.reach_fail h).elim
  rename_i ti hti
  split at h
  · rename_i n e hd
    split at h
    · rename_i k m l
      split at h
      · rename_i k' j
        split at h
        · rename_i h0 h1
          obtain ⟨h0, h1⟩ := lit_range h0 h1
          split at h
          · rename_i te hte
            obtain ⟨g1, g2, g3⟩ := partS_spec hT hx h
            refine ⟨g1, g2, fun ρ w => ?_⟩
            have := g3 ρ w
            simp only [SV.den, Value.cells] at this ⊢
            rw [run_indexV (hT _ _ hti) (hT _ _ hte) hd rfl h0 h1, this]
          · exact (T.reach_fail h).elim
        · exact (T.reach_fail h).elim
      · rename_i k' j
        split at h
        · rename_i te hte
          split at h
          · rename_i ke hke
            split at h
            · rename_i hs1 hmn
              have hs1 := Nat.eq_of_beq_eq_true hs1
              have hmn := Nat.eq_of_beq_eq_true hmn
              rw [T.reach_need, T.reach_ret] at h
              obtain ⟨⟨h0, h1⟩, rfl⟩ := h
              refine ⟨by simp only [wf], fun p _ => by simp [SV.ids], fun ρ w => ?_⟩
              simp only [SV.den]
              rw [run_indexV (hT _ _ hti) (hT _ _ hte) hd rfl h0 h1]
              have hagg : (isAgg e).run P w = .ok false w := by rw [run_isAgg (hT _ _ hte), hke]; rfl
              simp only [wf] at hx
              have hlt : j.toNat < l.length := by omega
              simp only [part, Sem.run_bind, hagg, Result.andThen_ok, Bool.false_eq_true, if_false, hs1, Nat.mul_one]
              have : (List.map (Value.int k) l).toArray[j.toNat]? = some (.int k (l.getD j.toNat 0)) := by simpa using cells_ints_getD (k := k) hlt
              rw [this]; rfl
            · exact (T.reach_fail h).elim
          · exact (T.reach_fail h).elim
        · exact (T.reach_fail h).elim
      · exact (T.reach_fail h).elim
    · rename_i ps
      split at h
      · rename_i k' j
        split at h
        · rename_i h0 h1
          obtain ⟨h0, h1⟩ := lit_range h0 h1
          split at h
          · rename_i te hte
            obtain ⟨g1, g2, g3⟩ := partS_spec hT hx h
            refine ⟨g1, g2, fun ρ w => ?_⟩
            have := g3 ρ w
            simp only [SV.den, Value.cells] at this ⊢
            rw [run_indexV (hT _ _ hti) (hT _ _ hte) hd rfl h0 h1, this]
          · exact (T.reach_fail h).elim
        · exact (T.reach_fail h).elim
      · exact (T.reach_fail h).elim
    · exact (T.reach_fail h).elim
  · exact (T.reach_fail h).elim
end Go.Sx
