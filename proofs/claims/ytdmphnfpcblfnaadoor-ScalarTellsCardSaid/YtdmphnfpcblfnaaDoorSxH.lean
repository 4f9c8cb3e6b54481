import Derived.Test.YtdmphnfpcblfnaaDoorSxG
/- The symbolic layer, part H: '==' on arrays and structs of numbers. -/
namespace Go.Sx

def boolOf : SV → Option Bool
  | .tt => some true
  | .ff => some false
  | .bool b => some b
  | _ => none

theorem boolOf_den {v : SV} {b : Bool} (h : boolOf v = some b) (ρ : Env) : v.den ρ = .bool b := by
  cases v <;> simp [boolOf] at h <;> subst h <;> simp [SV.den]

/-- A number, or rows of numbers, to the bottom. -/
def deepB (tab : Tab) : Nat → TypeId → Bool
  | 0, _ => false
  | d + 1, t => match tab t with
    | none => false
    | some ti => match ti.d with
      | .int _ => Nat.beq ti.sz 1
      | .array n e => match tab e with
        | none => false
        | some te => deepB tab d e && Nat.beq ti.sz (n * te.sz)
      | _ => false

def rowV (agg : Bool) (k : IntKind) (l : List Int) : Value :=
  match agg with
  | true => .agg (l.map (Value.int k)).toArray
  | false => .int k (l.getD 0 0)

theorem run_forIn_all {P : Program} {w : World} (g : Nat → Option Bool × Unit → Sem (ForInStep (Option Bool × Unit))) (E : Nat → Bool) : ∀ (l : List Nat),
    (∀ i ∈ l, (g i (none, ())).run P w = .ok (if E i then ForInStep.yield (none, ()) else ForInStep.done (some false, ())) w) →
    (forIn l ((none : Option Bool), ()) g).run P w = .ok (if l.all E then (none, ()) else (some false, ())) w
  | [], _ => by simp
  | i :: l, h => by
    have h1 := h i (by simp)
    have ih := run_forIn_all g E l (fun j hj => h j (by simp [hj]))
    rw [List.forIn_cons]
    simp only [Sem.run_bind, h1, Result.andThen_ok]
    cases hE : E i with
    | true => simp [ih, hE]
    | false => simp [hE]

theorem rows_eq (s : Nat) : ∀ (n : Nat) (l l' : List Int), l.length = n * s → l'.length = n * s →
    ((List.range' 0 n).all fun i => sub l (i * s) s == sub l' (i * s) s) = (l == l')
  | 0, l, l', h, h' => by
    have : l = [] := by cases l <;> simp_all
    have : l' = [] := by cases l' <;> simp_all
    subst_vars; rfl
  | n + 1, l, l', h, h' => by
    have ih := rows_eq s n (l.drop s) (l'.drop s) (by simp [h, Nat.add_mul]) (by simp [h', Nat.add_mul])
    rw [List.range'_succ, List.all_cons]
    have e : (List.range' 1 n).all (fun i => sub l (i * s) s == sub l' (i * s) s) = (List.range' 0 n).all (fun i => sub (l.drop s) (i * s) s == sub (l'.drop s) (i * s) s) := by
      have e0 : List.range' 1 n = (List.range' 0 n).map (fun x => 1 + x) := by rw [List.map_add_range']
      rw [e0, List.all_map]
      congr 1
      funext i
      simp only [Function.comp, sub, List.drop_drop]
      rw [show (1 + i) * s = s + i * s from by rw [Nat.add_mul, Nat.one_mul]]
    rw [show (0 : Nat) + 1 = 1 from rfl, e, ih]
    simp only [sub, Nat.zero_mul, List.drop_zero]
    rw [Bool.eq_iff_iff]
    simp only [Bool.and_eq_true, beq_iff_eq]
    constructor
    · rintro ⟨a, b⟩
      rw [← List.take_append_drop s l, ← List.take_append_drop s l', a, b]
    · rintro rfl; exact ⟨rfl, rfl⟩

theorem run_part_row {P : Program} {w : World} {e : TypeId} {te : TyI} (he : TyOk P e te) {k : IntKind} {l : List Int} {o : Nat} (hb : TypeDesc.isAggB te.d = false → te.sz = 1) (h : o + te.sz ≤ l.length) :
    (part e (l.map (Value.int k)).toArray o).run P w = .ok (rowV (TypeDesc.isAggB te.d) k (sub l o te.sz)) w := by
  have hu : (isAgg e).run P w = .ok (TypeDesc.isAggB te.d) w := run_isAgg he
  have hs : (sizeOf e).run P w = .ok te.sz w := run_size he
  simp only [part, Sem.run_bind, hu, Result.andThen_ok, Sem.run_ite]
  cases hagg : TypeDesc.isAggB te.d with
  | true =>
    simp only [if_true, hs, Result.andThen_ok, Sem.run_pure, rowV]
    congr 2
    apply Array.ext'
    simp [sub, List.map_take, List.map_drop]
  | false =>
    have h1 := hb hagg
    simp only [Bool.false_eq_true, if_false, rowV]
    have : (List.map (Value.int k) l).toArray[o]? = some (.int k ((sub l o te.sz).getD 0 0)) := by
      rw [h1]
      have := cells_ints_getD (k := k) (l := l) (i := o) (by omega)
      simp only [List.getElem?_toArray, this]
      simp [sub, List.getD, show o < l.length by omega]
    rw [this]; rfl

theorem len1 {l : List Int} (h : l.length = 1) : ∃ a, l = [a] := by
  match l, h with
  | [a], _ => exact ⟨a, rfl⟩

theorem deep_eq {P : Program} {tab : Tab} (hT : TabOk P tab) {w : World} {k : IntKind} : ∀ (fuel : Nat) (D : Nat) (t : TypeId) (ti : TyI) (l l' : List Int), fuel ≤ D → tab t = some ti → deepB tab fuel t = true →
    l.length = ti.sz → l'.length = ti.sz → (TypeDesc.isAggB ti.d = false → ti.sz = 1) ∧ (Op.equalIn D t (rowV (TypeDesc.isAggB ti.d) k l) (rowV (TypeDesc.isAggB ti.d) k l')).run P w = .ok (l == l') w
  | 0, _, _, _, _, _, _, _, hd, _, _ => by simp [deepB] at hd
  | fuel + 1, 0, _, _, _, _, hD, _, _, _, _ => by omega
  | fuel + 1, D + 1, t, ti, l, l', hD, hti, hd, hl, hl' => by
    simp only [deepB, hti] at hd
    have ok := hT _ _ hti
    split at hd
    · rename_i k0 hk0
      have h1 := Nat.eq_of_beq_eq_true hd
      rw [h1] at hl hl'
      refine ⟨fun _ => h1, ?_⟩
      have hu : P.underlying t = some (.int k0) := by rw [ok.und, hk0]
      rw [hk0]
      simp only [TypeDesc.isAggB, rowV]
      obtain ⟨a, rfl⟩ := len1 hl
      obtain ⟨b, rfl⟩ := len1 hl'
      have := run_equalIn_int (P := P) w D t k k0 a b hu
      simp only [List.getD_cons_zero]
      rw [this]
      simp
    · rename_i n e hne
      split at hd
      · cases hd
      rename_i te hte
      simp only [Bool.and_eq_true] at hd
      obtain ⟨hd1, hd2⟩ := hd
      have hsz := Nat.eq_of_beq_eq_true hd2
      refine ⟨fun h => by (rw [hne] at h; cases h), ?_⟩
      have hu : ∀ w, (underlying t).run P w = .ok (.array n e) w := fun w => by rw [run_und ok, hne]
      have hs : ∀ w, (Go.sizeOf e).run P w = .ok te.sz w := fun w => run_size (hT _ _ hte)
      rw [hne]
      simp only [TypeDesc.isAggB, rowV, Op.equalIn, Sem.run_bind, hu, Result.andThen_ok, hs]
      rw [Std.Legacy.Range.forIn_eq_forIn_range']
      have hsize : (Std.Legacy.Range.size [:n]) = n := by simp [Std.Legacy.Range.size]
      rw [hsize]
      rw [run_forIn_all (P := P) (w := w) _ (fun i => sub l (i * te.sz) te.sz == sub l' (i * te.sz) te.sz) (List.range' 0 n) (fun i hi => ?_)]
      · rw [rows_eq te.sz n l l' (by omega) (by omega)]
        cases l == l' <;> simp
      · simp at hi
        have hle : i * te.sz + te.sz ≤ n * te.sz := by
          rw [← Nat.succ_mul]; exact Nat.mul_le_mul_right _ hi
        have ih := deep_eq hT (w := w) (k := k) fuel D e te (sub l (i * te.sz) te.sz) (sub l' (i * te.sz) te.sz) (by omega) hte hd1 (by simp [sub]; omega) (by simp [sub]; omega)
        simp only [Sem.run_bind, run_part_row (hT _ _ hte) ih.1 (show i * te.sz + te.sz ≤ l.length by omega), run_part_row (hT _ _ hte) ih.1 (show i * te.sz + te.sz ≤ l'.length by omega), Result.andThen_ok, ih.2]
        cases sub l (i * te.sz) te.sz == sub l' (i * te.sz) te.sz <;> simp
    · cases hd

def eqF (tab : Tab) (rec : TypeId → SV → SV → T Bool) (x y : SV) : List Field → T Bool
  | [] => .ret true
  | f :: fs => (partS tab f.type x f.offset).bind fun a => (partS tab f.type y f.offset).bind fun b => (rec f.type a b).bind fun r => (eqF tab rec x y fs).bind fun r' => .ret (r && r')

def isAggV : SV → Bool
  | .agg _ => true
  | .ints _ _ _ => true
  | _ => false

def eqT (tab : Tab) : Nat → TypeId → SV → SV → T Bool
  | 0, _, _, _ => .fail "==: depth"
  | d + 1, t, x, y => match tab t with
    | none => .fail "==: type"
    | some ti => match ti.d with
      | .int _ => match numOf x, numOf y with
        | some (_, k, a), some (_, k', b) => match decide (k = k') with
          | true => .ret (a == b)
          | false => .fail "==: kinds"
        | _, _ => .fail "==: numbers"
      | .bool => match boolOf x, boolOf y with
        | some a, some b => .ret (a == b)
        | _, _ => .fail "==: bools"
      | .array _ _ => match x, y with
        | .ints k m l, .ints k' m' l' => match decide (k = k'), deepB tab (d + 1) t, Nat.beq m ti.sz, Nat.beq m' ti.sz with
          | true, true, true, true => .ret (l == l')
          | _, _, _, _ => .fail "==: arrays"
        | _, _ => .fail "==: arrays of what"
      | .struct fs => match ti.pl, isAggV x, isAggV y with
        | true, true, true => eqF tab (eqT tab d) x y fs.toList
        | _, _, _ => .fail "==: structs"
      | _ => .fail "==: of what"

theorem isAggV_den {v : SV} (h : isAggV v = true) (ρ : Env) : v.den ρ = .agg (v.den ρ).cells := by
  cases v <;> simp [isAggV] at h <;> simp [SV.den, Value.cells]

theorem eqF_spec {P : Program} {tab : Tab} (hT : TabOk P tab) {rec : TypeId → SV → SV → T Bool} {D : Nat} {ρ : Env} {w : World}
    (hrec : ∀ t x y r, wf x → wf y → T.Reach (rec t x y) r → (Op.equalIn D t (x.den ρ) (y.den ρ)).run P w = .ok r w) {x y : SV} (hx : wf x) (hy : wf y) :
    ∀ (fs : List Field) (r : Bool), (∀ f ∈ fs, f.name ≠ "_") → T.Reach (eqF tab rec x y fs) r → (Op.eqFields D (x.den ρ).cells (y.den ρ).cells fs).run P w = .ok r w
  | [], r, _, h => by simp only [eqF, T.reach_ret] at h; subst h; simp [Op.eqFields]
  | f :: fs, r, hn, h => by
    simp only [eqF, T.reach_bind, T.reach_ret] at h
    obtain ⟨a, ha, b, hb, r1, h1, r2, h2, rfl⟩ := h
    obtain ⟨wa, -, ra⟩ := partS_spec hT hx ha
    obtain ⟨wb, -, rb⟩ := partS_spec hT hy hb
    have e1 := hrec _ _ _ _ wa wb h1
    have e2 := eqF_spec hT hrec hx hy fs r2 (fun g hg => hn g (by simp [hg])) h2
    simp only [Op.eqFields, hn f (by simp), ne_eq, not_false_eq_true, if_true, Sem.run_bind, ra ρ w, rb ρ w, Result.andThen_ok, e1]
    cases r1 <;> simp [e2]

theorem eqT_spec {P : Program} {tab : Tab} (hT : TabOk P tab) {ρ : Env} {w : World} : ∀ (fuel D : Nat) (t : TypeId) (x y : SV) (r : Bool), fuel ≤ D → wf x → wf y → T.Reach (eqT tab fuel t x y) r →
    (Op.equalIn D t (x.den ρ) (y.den ρ)).run P w = .ok r w
  | 0, _, _, _, _, _, _, _, _, h => (T.reach_fail h).elim
  | fuel + 1, 0, _, _, _, _, hD, _, _, _ => by omega
  | fuel + 1, D + 1, t, x, y, r, hD, hx, hy, h => by
    simp only [eqT] at h
    split at h
    · exact (T.reach_fail h).elim
    rename_i ti hti
    have ok := hT _ _ hti
    split at h
    · rename_i k0 hk0
      have hu : P.underlying t = some (.int k0) := by rw [ok.und, hk0]
      split at h
      · rename_i b1 k a b2 k' b hx' hy'
        split at h
        · rename_i hk
          have hk : k = k' := of_decide_eq_true hk
          subst hk
          rw [T.reach_ret] at h; subst h
          rw [numOf_den hx', numOf_den hy', run_equalIn_int w D t k k0 a b hu]
        · exact (T.reach_fail h).elim
      · exact (T.reach_fail h).elim
    · rename_i hk0
      have hu : P.underlying t = some .bool := by rw [ok.und, hk0]
      split at h
      · rename_i a b hx' hy'
        rw [T.reach_ret] at h; subst h
        rw [boolOf_den hx', boolOf_den hy', run_equalIn_bool' w D t a b hu]
      · exact (T.reach_fail h).elim
    · rename_i n e hne
      split at h
      · rename_i k m l k' m' l'
        split at h
        · rename_i hk hd hm hm'
          have hk : k = k' := of_decide_eq_true hk
          subst hk
          have hm := Nat.eq_of_beq_eq_true hm
          have hm' := Nat.eq_of_beq_eq_true hm'
          simp only [wf] at hx hy
          rw [T.reach_ret] at h; subst h
          have := (deep_eq hT (w := w) (k := k) (fuel + 1) (D + 1) t ti l l' hD hti hd (by omega) (by omega)).2
          rw [hne] at this
          exact this
        · exact (T.reach_fail h).elim
      · exact (T.reach_fail h).elim
    · rename_i fs hfs
      split at h
      · rename_i hpl hax hay
        obtain ⟨p1, p2, p3⟩ := ok.plain hpl
        have hu : P.underlying t = some (.struct fs) := by rw [ok.und, hfs]
        have hf : P.fieldsOf t = fs := by simp [Program.fieldsOf, hu]
        rw [isAggV_den hax, isAggV_den hay, run_equalIn_struct w D t _ _ (by rw [hf]; exact hu) p1, hf]
        exact eqF_spec hT (fun t x y r a b c => eqT_spec hT fuel D t x y r (by omega) a b c) hx hy fs.toList r (p3 fs hfs) h
      · exact (T.reach_fail h).elim
    · exact (T.reach_fail h).elim
end Go.Sx
