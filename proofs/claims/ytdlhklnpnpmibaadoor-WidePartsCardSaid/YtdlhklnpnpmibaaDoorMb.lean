import Derived.Test.YtdlhklnpnpmibaaDoorMa
import Derived.MapKept
import Derived.Laws.BytesString
import Derived.Laws.StructEq
import Derived.Laws.Strings
import Derived.LoopN
import Derived.Tactics
import Derived.RangeFuncLeaves
import Derived.RangeFuncNested
import Derived.Laws.MathBits
import Derived.Laws.Externs
import Derived.Laws.BitsAllLaws
/- The symbolic layer: maps from numbers, or rows of numbers, to numbers. -/
namespace Go.Sx
open Go.RowKit (Below)

def mfind (vk : IntKind) (l : List Int) : Nat → List (List Int × Int) → Option (Nat × Value)
  | _, [] => none
  | j, (l', x) :: es => match l == l' with
    | true => some (j, .int vk x)
    | false => mfind vk l (j + 1) es

/-- A key's number; 0: it is not there. -/
def mget (l : List Int) : List (List Int × Int) → Int
  | [] => 0
  | (l', x) :: es => match l == l' with
    | true => x
    | false => mget l es
def mhas (l : List Int) : List (List Int × Int) → Bool
  | [] => false
  | (l', _) :: es => match l == l' with
    | true => true
    | false => mhas l es
/-- A key's place. -/
def mix (l : List Int) : List (List Int × Int) → Nat
  | [] => 0
  | (l', _) :: es => match l == l' with
    | true => 0
    | false => mix l es + 1
/-- The map with a number at a key. -/
def mput (l : List Int) (x : Int) : List (List Int × Int) → List (List Int × Int)
  | [] => [(l, x)]
  | (l', y) :: es => match l == l' with
    | true => (l, x) :: es
    | false => (l', y) :: mput l x es
/-- The map with a number at a place. -/
def mset (x : Int) : Nat → List (List Int × Int) → List (List Int × Int)
  | _, [] => []
  | 0, (l, _) :: es => (l, x) :: es
  | n + 1, p :: es => p :: mset x n es
def madd (l : List Int) (es : List (List Int × Int)) : List (List Int × Int) := match mhas l es with
  | true => es
  | false => es ++ [(l, 0)]

theorem mfind_eq (vk : IntKind) (l : List Int) : ∀ (es : List (List Int × Int)) (j : Nat), mfind vk l j es = match mhas l es with
    | true => some (j + mix l es, .int vk (mget l es))
    | false => none
  | [], j => rfl
  | (l', x) :: es, j => by
    simp only [mfind, mhas, mix, mget]
    cases h : l == l' with
    | true => rfl
    | false =>
      simp only
      rw [mfind_eq vk l es (j + 1)]
      cases mhas l es
      · rfl
      · simp only; congr 2; omega

theorem ents_length (agg : Bool) (k vk : IntKind) : ∀ (j : Nat) (es : List (List Int × Int)), (ents agg k vk j es).length = es.length
  | _, [] => rfl
  | j, (l, x) :: es => by simp [ents, ents_length agg k vk (j + 1) es]

theorem ents_append (agg : Bool) (k vk : IntKind) : ∀ (j : Nat) (es fs : List (List Int × Int)), ents agg k vk j (es ++ fs) = ents agg k vk j es ++ ents agg k vk (j + es.length) fs
  | j, [], fs => by simp [ents]
  | j, (l, x) :: es, fs => by
    simp only [List.cons_append, ents, List.length_cons]
    rw [ents_append agg k vk (j + 1) es fs, show j + 1 + es.length = j + (es.length + 1) from by omega]

/-- What is known of a map's type. -/
structure MapTy (P : Program) (t : TypeId) (kt vt : TypeId) (agg : Bool) (sz : Nat) (k vk : IntKind) : Prop where
  und : P.underlying t = some (.map kt vt)
  check : ∀ (b : Bool) (l : List Int) (w : World), l.length = sz → (Instr.checkKey b 10000 kt (keyV agg k l)).run P w = .ok () w
  find : ∀ (l : List Int) (es : List (List Int × Int)) (w : World), l.length = sz → (∀ p ∈ es, p.1.length = sz) → (Instr.findKey kt (keyV agg k l) (ents agg k vk 0 es)).run P w = .ok (mfind vk l 0 es) w
  zero : ∀ w, (zeroValue vt).run P w = .ok (.int vk 0) w

theorem findNow_int {k vk : IntKind} {l : List Int} (hl : l.length = 1) : ∀ (es : List (List Int × Int)) (j : Nat), (∀ p ∈ es, p.1.length = 1) → Instr.findNow (.int k) (keyV false k l) (ents false k vk j es) j = some (mfind vk l j es)
  | [], j, _ => rfl
  | (l', x) :: es, j, h => by
    have h' := h (l', x) (by simp)
    have ih := findNow_int (k := k) (vk := vk) hl es (j + 1) (fun p hp => h p (by simp [hp]))
    obtain ⟨a, rfl⟩ := len1 hl
    obtain ⟨b, rfl⟩ := len1 h'
    simp only [ents, Instr.findNow, Instr.sameNow, keyV, List.getD_cons_zero, if_true, mfind]
    simp only [keyV, List.getD_cons_zero] at ih
    by_cases hab : a = b
    · subst hab; simp
    · have e1 : (a == b) = false := by simpa using hab
      have e2 : ([a] == [b]) = false := by simpa using hab
      rw [e1, e2]
      exact ih

theorem findAsking_deep {P : Program} {tab : Tab} (hT : TabOk P tab) {kt : TypeId} {tk : TyI} {k vk : IntKind} (hk : tab kt = some tk) (hd : deepB tab 8 kt = true) (hagg : TypeDesc.isAggB tk.d = true) {l : List Int} (hl : l.length = tk.sz) (w : World) : ∀ (es : List (List Int × Int)) (j : Nat), (∀ p ∈ es, p.1.length = tk.sz) →
    (Instr.findAsking kt (keyV true k l) (ents true k vk j es) j).run P w = .ok (mfind vk l j es) w
  | [], j, _ => rfl
  | (l', x) :: es, j, h => by
    have h' := h (l', x) (by simp)
    have ih := findAsking_deep (k := k) (vk := vk) hT hk hd hagg hl w es (j + 1) (fun p hp => h p (by simp [hp]))
    have he := (deep_eq hT (w := w) (k := k) 8 Op.maxDepth kt tk l l' (by simp [Op.maxDepth]) hk hd hl h').2
    rw [hagg] at he
    have he : (Op.equal kt (keyV true k l) (keyV true k l')).run P w = .ok (l == l') w := he
    simp only [ents, Instr.findAsking, Sem.run_bind, he, Result.andThen_ok, Sem.run_ite, mfind]
    cases hb : l == l' with
    | true => simp
    | false => simpa using ih

theorem run_forIn_unit {P : Program} {w : World} (g : Nat → Unit → Sem (ForInStep Unit)) : ∀ (l : List Nat), (∀ i ∈ l, (g i ()).run P w = .ok (ForInStep.yield ()) w) → (forIn l () g).run P w = .ok () w
  | [], _ => by simp
  | i :: l, h => by
    rw [List.forIn_cons]
    simp only [Sem.run_bind, h i (by simp), Result.andThen_ok]
    exact run_forIn_unit g l (fun j hj => h j (by simp [hj]))

theorem check_deep {P : Program} {tab : Tab} (hT : TabOk P tab) {w : World} {k : IntKind} {b : Bool} : ∀ (fuel : Nat) (n : Nat) (t : TypeId) (ti : TyI) (l : List Int), fuel ≤ n → tab t = some ti → deepB tab fuel t = true → l.length = ti.sz →
    (TypeDesc.isAggB ti.d = false → ti.sz = 1) ∧ (Instr.checkKey b n t (rowV (TypeDesc.isAggB ti.d) k l)).run P w = .ok () w
  | 0, _, _, _, _, _, _, hd, _ => by simp [deepB] at hd
  | fuel + 1, 0, _, _, _, hn, _, _, _ => by omega
  | fuel + 1, n + 1, t, ti, l, hn, hti, hd, hl => by
    simp only [deepB, hti] at hd
    have ok := hT _ _ hti
    split at hd
    · rename_i k0 hk0
      have h1 := Nat.eq_of_beq_eq_true hd
      refine ⟨fun _ => h1, ?_⟩
      have hu : ∀ w, (underlying t).run P w = .ok (.int k0) w := fun w => by rw [run_und ok, hk0]
      rw [hk0]
      simp only [TypeDesc.isAggB, rowV, Instr.checkKey, Sem.run_bind, hu, Result.andThen_ok]
      rfl
    · rename_i m e hne
      split at hd
      · cases hd
      rename_i te hte
      simp only [Bool.and_eq_true] at hd
      obtain ⟨hd1, hd2⟩ := hd
      have hsz := Nat.eq_of_beq_eq_true hd2
      refine ⟨fun h => by (rw [hne] at h; cases h), ?_⟩
      have hu : ∀ w, (underlying t).run P w = .ok (.array m e) w := fun w => by rw [run_und ok, hne]
      have hs : ∀ w, (Go.sizeOf e).run P w = .ok te.sz w := fun w => run_size (hT _ _ hte)
      rw [hne]
      simp only [TypeDesc.isAggB, rowV, Instr.checkKey, Sem.run_bind, hu, Result.andThen_ok]
      rw [Std.Legacy.Range.forIn_eq_forIn_range']
      have hsize : (Std.Legacy.Range.size [:m]) = m := by simp [Std.Legacy.Range.size]
      rw [hsize]
      rw [run_forIn_unit (P := P) (w := w) _ _ (fun i hi => ?_)]
      · simp
      simp at hi
      have hle : i * te.sz + te.sz ≤ m * te.sz := by
        rw [← Nat.succ_mul]; exact Nat.mul_le_mul_right _ hi
      have ih := check_deep hT (w := w) (k := k) (b := b) fuel n e te (sub l (i * te.sz) te.sz) (by omega) hte hd1 (by simp [sub]; omega)
      simp only [Sem.run_bind, hs, Result.andThen_ok, run_part_row (hT _ _ hte) ih.1 (show i * te.sz + te.sz ≤ l.length by omega), ih.2, Sem.run_pure]
    · cases hd

def zeroNum (k : IntKind) : SV → Bool
  | .lit k' n => decide (k' = k) && decide (n = 0)
  | .int k' n => decide (k' = k) && decide (n = 0)
  | _ => false
theorem zeroNum_den {k : IntKind} {z : SV} (h : zeroNum k z = true) (ρ : Env) : z.den ρ = .int k 0 := by
  cases z <;> simp only [zeroNum, Bool.and_eq_true, decide_eq_true_eq, Bool.false_eq_true] at h
  · obtain ⟨rfl, rfl⟩ := h; simp [SV.den]
  · obtain ⟨rfl, rfl⟩ := h; simp [SV.den]

/-- A map's type, looked up. -/
structure MT where
  kt : TypeId
  vt : TypeId
  agg : Bool
  sz : Nat
  k : IntKind
  vk : IntKind

def mapTy (tab : Tab) (t : TypeId) : Option MT :=
  match tab t with
  | some ti => match ti.d with
    | .map kt vt => match tab kt, tab vt with
      | some tk, some tv => match tv.d with
        | .int vk => match zeroNum vk tv.z with
          | true => match tk.d with
            | .int k => match Nat.beq tk.sz 1 with
              | true => some ⟨kt, vt, false, 1, k, vk⟩
              | false => none
            | .array _ _ => match deepB tab 8 kt with
              | true => some ⟨kt, vt, true, tk.sz, kindZ tk.z, vk⟩
              | false => none
            | _ => none
          | false => none
        | _ => none
      | _, _ => none
    | _ => none
  | none => none

theorem mapTy_spec {P : Program} {tab : Tab} (hT : TabOk P tab) {t : TypeId} {m : MT} (h : mapTy tab t = some m) : MapTy P t m.kt m.vt m.agg m.sz m.k m.vk := by
  unfold mapTy at h
  split at h
  · rename_i ti hti
    split at h
    · rename_i kt vt hd
      split at h
      · rename_i tk tv hk hv
        split at h
        · rename_i vk hvk
          split at h
          · rename_i hz
            have hzero : ∀ w, (zeroValue vt).run P w = .ok (.int vk 0) w := fun w => by
              rw [run_zero (hT _ _ hv) ⟨id, id, id, fun _ => undef, fun _ => undef⟩, zeroNum_den hz]
            have hu : P.underlying t = some (.map kt vt) := by rw [(hT _ _ hti).und, hd]
            split at h
            · rename_i k hkd
              split at h
              · rename_i hs1
                have hs1 := Nat.eq_of_beq_eq_true hs1
                cases h
                have huk : ∀ w, (underlying kt).run P w = .ok (.int k) w := fun w => by rw [run_und (hT _ _ hk), hkd]
                refine ⟨hu, fun b l w hl => ?_, fun l es w hl he => ?_, hzero⟩
                · have hdeep : deepB tab 8 kt = true := by simp [deepB, hk, hkd, hs1]
                  have := (check_deep hT (w := w) (k := k) (b := b) 8 10000 kt tk l (by omega) hk hdeep (by rw [hs1]; exact hl)).2
                  rw [hkd] at this
                  exact this
                · simp only [Instr.findKey, Sem.run_bind, huk, Result.andThen_ok]
                  rw [findNow_int hl es 0 he]
                  rfl
              · cases h
            · rename_i n e hkd
              split at h
              · rename_i hdeep
                cases h
                have hagg : TypeDesc.isAggB tk.d = true := by rw [hkd]; rfl
                have huk : ∀ w, (underlying kt).run P w = .ok (.array n e) w := fun w => by rw [run_und (hT _ _ hk), hkd]
                refine ⟨hu, fun b l w hl => ?_, fun l es w hl he => ?_, hzero⟩
                · have := (check_deep hT (w := w) (k := kindZ tk.z) (b := b) 8 10000 kt tk l (by omega) hk hdeep hl).2
                  rw [hagg] at this
                  exact this
                · simp only [Instr.findKey, Sem.run_bind, huk, Result.andThen_ok]
                  cases es with
                  | nil => rfl
                  | cons p es =>
                    obtain ⟨l', x⟩ := p
                    have e0 : Instr.findNow (.array n e) (keyV true (kindZ tk.z) l) (ents true (kindZ tk.z) vk 0 ((l', x) :: es)) 0 = none := by
                      simp only [ents, Instr.findNow, Instr.sameNow, keyV]
                    rw [e0]
                    exact findAsking_deep hT hk hdeep hagg hl w ((l', x) :: es) 0 he
              · cases h
            · cases h
          · cases h
        · cases h
      · cases h
    · cases h
  · cases h
end Go.Sx

/- The symbolic layer: maps: as effects. -/
namespace Go.Sx
open Go.RowKit (Below)

theorem sameBits_ints (k : IntKind) (l : List Int) : (List.map (fun x => (x, x)) (l.map (Value.int k))).all (fun p => Instr.sameBits 9999 p.1 p.2) = true := by
  induction l with
  | nil => rfl
  | cons x l ih => simp [Instr.sameBits]

theorem zip_self {α : Type} (l : List α) : l.zip l = l.map fun x => (x, x) := by
  induction l with
  | nil => rfl
  | cons x l ih => simp [ih]

theorem sameBits_key (agg : Bool) (k : IntKind) (l : List Int) : Instr.sameBits 10000 (keyV agg k l) (keyV agg k l) = true := by
  cases agg with
  | false => simp [keyV, Instr.sameBits]
  | true =>
    have h : Instr.sameBits (9999 + 1) (.agg (l.map (Value.int k)).toArray) (.agg (l.map (Value.int k)).toArray) = true := by
      rw [Instr.sameBits]
      simp only [BEq.rfl, Bool.true_and]
      have := sameBits_ints k l
      rw [zip_self]
      exact this
    exact h

theorem run_stays {P : Program} {w : World} (agg : Bool) (k : IntKind) (l : List Int) : (Instr.keyThatStays (keyV agg k l) (keyV agg k l)).run P w = .ok (keyV agg k l) w := by
  unfold Instr.keyThatStays
  rw [if_pos (sameBits_key agg k l)]
  rfl

theorem ents_mset (agg : Bool) (k vk : IntKind) (x : Int) : ∀ (es : List (List Int × Int)) (j i : Nat), (ents agg k vk j es).modify i (fun e => { e with val := .int vk x }) = ents agg k vk j (mset x i es)
  | [], j, i => by cases i <;> simp [ents, mset]
  | (l, y) :: es, j, 0 => by simp [ents, mset]
  | (l, y) :: es, j, i + 1 => by simp [ents, mset, ents_mset agg k vk x es (j + 1) i]

theorem ents_key (agg : Bool) (k vk : IntKind) (l : List Int) : ∀ (es : List (List Int × Int)) (j : Nat), mhas l es = true → (ents agg k vk j es)[mix l es]? = some { key := keyV agg k l, val := .int vk (mget l es), born := j + mix l es }
  | [], j, h => by cases h
  | (l', y) :: es, j, h => by
    simp only [mhas] at h
    simp only [ents, mix, mget]
    cases hb : l == l' with
    | true =>
      have : l = l' := by simpa using hb
      subst this
      simp
    | false =>
      rw [hb] at h
      simp only [List.getElem?_cons_succ]
      rw [ents_key agg k vk l es (j + 1) h]
      simp; omega

theorem ents_same (agg : Bool) (k vk : IntKind) (l : List Int) (es : List (List Int × Int)) (h : mhas l es = true) : (ents agg k vk 0 es).modify (mix l es) (fun e => { e with key := keyV agg k l }) = ents agg k vk 0 es := by
  have hk := ents_key agg k vk l es 0 h
  apply List.ext_getElem?
  intro i
  rw [List.getElem?_modify]
  by_cases hi : mix l es = i
  · subst hi
    rw [hk]; simp
  · simp [hi]

theorem ents_put (agg : Bool) (k vk : IntKind) (l : List Int) (x : Int) : ∀ (es : List (List Int × Int)) (j : Nat), mhas l es = true → (ents agg k vk j es).modify (mix l es) (fun e => { e with key := keyV agg k l, val := .int vk x }) = ents agg k vk j (mput l x es)
  | [], j, h => by cases h
  | (l', y) :: es, j, h => by
    simp only [mhas] at h
    simp only [ents, mix, mput]
    cases hb : l == l' with
    | true => simp [ents]
    | false =>
      rw [hb] at h
      simp [ents, ents_put agg k vk l x es (j + 1) h]

theorem mput_new {l : List Int} {x : Int} : ∀ {es : List (List Int × Int)}, mhas l es = false → mput l x es = es ++ [(l, x)]
  | [], _ => rfl
  | (l', y) :: es, h => by
    simp only [mhas] at h
    simp only [mput]
    cases hb : l == l' with
    | true => rw [hb] at h; cases h
    | false => rw [hb] at h; simp [mput_new h]

theorem mput_length {l : List Int} {x : Int} : ∀ {es : List (List Int × Int)}, mhas l es = true → (mput l x es).length = es.length
  | [], h => by cases h
  | (l', y) :: es, h => by
    simp only [mhas] at h
    simp only [mput]
    cases hb : l == l' with
    | true => rfl
    | false => rw [hb] at h; simp [mput_length h]
theorem mput_keys {l : List Int} {x : Int} {sz : Nat} (hl : l.length = sz) : ∀ {es : List (List Int × Int)}, (∀ p ∈ es, p.1.length = sz) → ∀ p ∈ mput l x es, p.1.length = sz
  | [], _, p, hp => by simp [mput] at hp; subst hp; exact hl
  | (l', y) :: es, h, p, hp => by
    simp only [mput] at hp
    split at hp
    · rcases List.mem_cons.1 hp with rfl | hp
      · exact hl
      · exact h p (by simp [hp])
    · rcases List.mem_cons.1 hp with rfl | hp
      · exact h (l', y) (by simp)
      · exact mput_keys hl (fun q hq => h q (by simp [hq])) p hp
theorem mset_keys {x : Int} {sz : Nat} : ∀ {es : List (List Int × Int)} {i : Nat}, (∀ p ∈ es, p.1.length = sz) → ∀ p ∈ mset x i es, p.1.length = sz
  | [], i, _, p, hp => by cases i <;> simp [mset] at hp
  | (l, y) :: es, 0, h, p, hp => by
    simp only [mset, List.mem_cons] at hp
    rcases hp with rfl | hp
    · exact h (l, y) (by simp)
    · exact h p (by simp [hp])
  | q :: es, i + 1, h, p, hp => by
    simp only [mset, List.mem_cons] at hp
    rcases hp with rfl | hp
    · exact h _ (by simp)
    · exact mset_keys (fun q hq => h q (by simp [hq])) p hp
theorem mset_length {x : Int} : ∀ {es : List (List Int × Int)} {i : Nat}, (mset x i es).length = es.length
  | [], i => by cases i <;> rfl
  | (l, y) :: es, 0 => rfl
  | q :: es, i + 1 => by simp [mset, mset_length]
theorem mix_new {l : List Int} : ∀ {es : List (List Int × Int)}, mhas l es = false → mix l es = es.length ∧ mget l es = 0
  | [], _ => ⟨rfl, rfl⟩
  | (l', y) :: es, h => by
    simp only [mhas] at h
    simp only [mix, mget, List.length_cons]
    cases hb : l == l' with
    | true => rw [hb] at h; cases h
    | false =>
      rw [hb] at h
      have := mix_new h
      exact ⟨by simp [this.1], this.2⟩

/-! ### Effects -/
def keyL (m : MT) (x : SV) : Option (List Int) := match m.agg with
  | true => match x with
    | .ints k n l => match decide (k = m.k), Nat.beq n m.sz with
      | true, true => some l
      | _, _ => none
    | _ => none
  | false => match numOf x with
    | some (_, k, n) => match decide (k = m.k), Nat.beq m.sz 1 with
      | true, true => some [n]
      | _, _ => none
    | none => none

theorem keyL_spec {m : MT} {x : SV} {l : List Int} (hw : wf x) (h : keyL m x = some l) : l.length = m.sz ∧ ∀ ρ, x.den ρ = keyV m.agg m.k l := by
  unfold keyL at h
  split at h
  · rename_i hagg
    split at h
    · rename_i k n l'
      split at h
      · rename_i h1 h2
        have h1 := of_decide_eq_true h1
        have h2 := Nat.eq_of_beq_eq_true h2
        cases h
        simp only [wf] at hw
        exact ⟨by omega, fun ρ => by rw [hagg, h1]; simp only [SV.den, keyV]⟩
      · cases h
    · cases h
  · rename_i hagg
    split at h
    · rename_i b k n hn
      split at h
      · rename_i h1 h2
        have h1 := of_decide_eq_true h1
        have h2 := Nat.eq_of_beq_eq_true h2
        cases h
        exact ⟨by rw [h2]; rfl, fun ρ => by rw [hagg, numOf_den hn, h1]; simp [keyV]⟩
      · cases h
    · cases h

def numI (vk : IntKind) (x : SV) : Option Int := match numOf x with
  | some (_, k, n) => match decide (k = vk) with
    | true => some n
    | false => none
  | none => none
theorem numI_spec {vk : IntKind} {x : SV} {n : Int} (h : numI vk x = some n) (ρ : Env) : x.den ρ = .int vk n := by
  unfold numI at h
  split at h
  · rename_i b k n' hn
    split at h
    · rename_i hk
      have hk := of_decide_eq_true hk
      cases h; subst hk; exact numOf_den hn ρ
    · cases h
  · cases h

def mtEq (m : MT) (agg : Bool) (sz : Nat) (k vk : IntKind) : Bool := (m.agg == agg) && Nat.beq m.sz sz && decide (m.k = k) && decide (m.vk = vk)
theorem mtEq_spec {m : MT} {agg : Bool} {sz : Nat} {k vk : IntKind} (h : mtEq m agg sz k vk = true) : m.agg = agg ∧ m.sz = sz ∧ m.k = k ∧ m.vk = vk := by
  simp only [mtEq, Bool.and_eq_true, decide_eq_true_eq, beq_iff_eq] at h
  exact ⟨h.1.1.1, Nat.eq_of_beq_eq_true h.1.1.2, h.1.2, h.2⟩

def mkMapE (cx : Cx) (S : St) (t : TypeId) : T Eff :=
  match mapTy cx.tab t, look S.mem S.next, Nat.blt S.next 1000000 with
  | some m, none, true => .ret ⟨.mp S.next, [(S.next, .mp m.agg m.sz m.k m.vk [])]⟩
  | _, _, _ => .fail "a map: type, or number"

def lookupE (cx : Cx) (S : St) (t : TypeId) (i : Nat) (x : SV) : T Eff :=
  match mapTy cx.tab t, look S.mem i with
  | some m, some (.mp agg sz k vk es) => match mtEq m agg sz k vk, keyL m x with
    | true, some l => .ret ⟨.int vk (mget l es), []⟩
    | _, _ => .fail "a map's number: the key"
  | _, _ => .fail "a map's number: of what"

def entryE (cx : Cx) (S : St) (t : TypeId) (i : Nat) (x : SV) : T Eff :=
  match mapTy cx.tab t, look S.mem i with
  | some m, some (.mp agg sz k vk es) => match mtEq m agg sz k vk, keyL m x with
    | true, some l => .ret ⟨.tup [.int vk (mget l es), .int .i64 (mix l es)], [(i, .mp agg sz k vk (madd l es))]⟩
    | _, _ => .fail "a map's entry: the key"
  | _, _ => .fail "a map's entry: of what"

def estoreE (S : St) (i : Nat) (s x : SV) : T Eff :=
  match look S.mem i with
  | some (.mp agg sz k vk es) => match numI .i64 s, numI vk x with
    | some b, some n => .need (0 ≤ b ∧ b < es.length ∧ b ≤ 9223372036854775807) (.ret ⟨.raw undef, [(i, .mp agg sz k vk (mset n b.toNat es))]⟩)
    | _, _ => .fail "a map's entry: the number"
  | _ => .fail "a map's entry: into what"

def mapUpdE (cx : Cx) (S : St) (t : TypeId) (i : Nat) (x v : SV) : T Eff :=
  match mapTy cx.tab t, look S.mem i with
  | some m, some (.mp agg sz k vk es) => match mtEq m agg sz k vk, keyL m x, numI vk v with
    | true, some l, some n => .ret ⟨.raw undef, [(i, .mp agg sz k vk (mput l n es))]⟩
    | _, _, _ => .fail "a map: the key"
  | _, _ => .fail "a map: into what"

section
variable {P : Program} {Γ : Gam} {cx : Cx}

theorem mapOk {ρ : Env} {S : St} {a : Act} {w : World} (h : Rel Γ ρ S a w) {i : Nat} {agg : Bool} {sz : Nat} {k vk : IntKind} {es : List (List Int × Int)} (hl : look S.mem i = some (.mp agg sz k vk es)) :
    (∀ p ∈ es, p.1.length = sz) ∧ ∃ r, ρ.vec i = .map (some r) ∧ Γ.w0.heap.size ≤ r ∧ w.heap[r]? = some (.map (ents agg k vk 0 es).toArray es.length) ∧ (SV.mp i).den ρ = .map (some r) := by
  have hv : MapOwn w Γ.w0.heap.size (ρ.vec i) agg sz k vk es := (h.mem i _ hl).1.vec
  obtain ⟨h1, r, h2, h3, h4⟩ := hv
  exact ⟨h1, r, h2, h3, h4, by simp only [SV.den, h2]; rfl⟩

/-- A map's block, written. -/
theorem map_write {ρ : Env} {S : St} {a : Act} {w : World} (h : Rel Γ ρ S a w) {i r : Nat} {agg : Bool} {sz : Nat} {k vk : IntKind} {es es' : List (List Int × Int)} (hl : look S.mem i = some (.mp agg sz k vk es)) (hr : ρ.vec i = .map (some r)) (hk : ∀ p ∈ es', p.1.length = sz) :
    Rel Γ ρ { S with mem := upd S.mem i (.mp agg sz k vk es') } a { w with heap := w.heap.setIfInBounds r (.map (ents agg k vk 0 es').toArray es'.length) } := by
  obtain ⟨-, r', h2, h3, h4, -⟩ := mapOk h hl
  rw [hr] at h2
  cases h2
  have hlt : r < w.heap.size := by
    rcases Nat.lt_or_ge r w.heap.size with hl | hl
    · exact hl
    · rw [Array.getElem?_eq_none hl] at h4; cases h4
  have hp : phys ρ i (.mp agg sz k vk es) = some r := by simp only [phys, hr]; rfl
  have hp' : phys ρ i (.mp agg sz k vk es') = some r := by simp only [phys, hr]; rfl
  refine h.update (g := r) hl hp hp' ⟨rfl, rfl, rfl, by simp, fun j _ hj => ?_⟩ ⟨trivial, fun j u hj => (by cases hj), fun hh => (by cases hh), fun _ hh => (by cases hh), ?_⟩ trivial
  · exact Array.getElem?_setIfInBounds_ne (fun e => hj (by rw [e]))
  · exact ⟨hk, r, hr, h3, by simp [hlt]⟩

theorem mkMap_sound (_ : CxOk P Γ.G cx) {ρ : Env} {S : St} {a : Act} {w : World} (h : Rel Γ ρ S a w) {t : TypeId} {e : Eff} (hr : T.Reach (mkMapE cx S t) e) (dst : Option Tmp) {n' : Nat} (hn : Γ.n0 ≤ n') :
    ∃ v' w' ρ', (Instr.makeMap t none).run P w = .ok v' w' ∧ Rel Γ ρ' { e.on S dst with next := n' } (a.put dst v') w' := by
  unfold mkMapE at hr
  split at hr
  · rename_i m hm h1 h2
    have h2 : S.next < 1000000 := Nat.le_of_ble_eq_true h2
    rw [T.reach_ret] at hr; subst hr
    have hni : ¬ Γ.pinned S.next := by
      rintro (hp | hp)
      · have := h.nx; omega
      · omega
    have hrun : (Instr.makeMap t none).run P w = .ok (.map (some w.heap.size)) (w.alloc (.map #[] 0)) := by
      simp only [Instr.makeMap, Sem.run_bind, Sem.run_pure, Result.andThen_ok, run_newObj]
      rfl
    have ev : (ρ.set S.next 0 0 0 (.map (some w.heap.size))).vec S.next = .map (some w.heap.size) := if_pos rfl
    have hch := h.change (i := S.next) (o := none) (b := .mp m.agg m.sz m.k m.vk []) (blk := 0) (off := 0) (cap := 0) (vec := .map (some w.heap.size)) (row := none) (w' := w.alloc (.map #[] 0)) (World.grownBy_alloc w _ none) (fun g hg => by cases hg) (fun o' ho => by cases ho) h1 hni
      ⟨trivial, fun j u hj => (by cases hj), fun hh => (by cases hh), fun _ hh => (by cases hh), by
        show MapOwn _ _ ((ρ.set S.next 0 0 0 (.map (some w.heap.size))).vec S.next) _ _ _ _ _
        rw [ev]
        exact ⟨fun p hp => (by cases hp), w.heap.size, rfl, h.below.size, heap_alloc_new w _⟩⟩ trivial
      (fun g hg => by
        simp only [phys, ev, physM] at hg
        cases hg; exact .inl (Nat.le_refl _)) S.next h.nx
    have hput := hch.put dst (v := .mp S.next) (by simp only [wf]) (by simp only [SV.ids, St.has, look_upd]; simp)
    have hd : (SV.mp S.next).den (ρ.set S.next 0 0 0 (.map (some w.heap.size))) = .map (some w.heap.size) := by simp only [SV.den, ev]; rfl
    rw [hd] at hput
    exact ⟨_, _, _, hrun, hput.next hn⟩
  · exact (T.reach_fail hr).elim

theorem lookup_sound (hc : CxOk P Γ.G cx) {ρ : Env} {S : St} {a : Act} {w : World} (h : Rel Γ ρ S a w) {t : TypeId} {i : Nat} {x : SV} {e : Eff} (hw : wf x) (hr : T.Reach (lookupE cx S t i x) e) :
    ∃ v, e = ⟨v, []⟩ ∧ wf v ∧ (∀ p, v.ids p) ∧ (Instr.lookup t ((SV.mp i).den ρ) (x.den ρ) false).run P w = .ok (v.den ρ) w := by
  unfold lookupE at hr
  split at hr
  · rename_i m agg sz k vk es hm hl
    split at hr
    · rename_i l he hk
      obtain ⟨rfl, rfl, rfl, rfl⟩ := mtEq_spec he
      rw [T.reach_ret] at hr; subst hr
      obtain ⟨h1, r, h2, h3, h4, h5⟩ := mapOk h hl
      have ty := mapTy_spec hc.tab hm
      obtain ⟨k1, k2⟩ := keyL_spec hw hk
      refine ⟨_, rfl, by simp only [wf], fun p => by simp [SV.ids], ?_⟩
      rw [h5, k2 ρ]
      have hu : ∀ w, (underlying t).run P w = .ok (.map m.kt m.vt) w := fun w => by simp [underlying, ty.und]
      simp only [Instr.lookup, Sem.run_bind, hu, Result.andThen_ok, MapKept.run_getObj_map h4, Sem.run_pure, ty.check _ _ _ k1, ty.find l es w k1 h1, SV.den]
      rw [mfind_eq]
      cases hh : mhas l es with
      | true => simp
      | false =>
        simp only [Sem.run_bind, ty.zero, Result.andThen_ok, Sem.run_pure, (mix_new hh).2]
        rfl
    · exact (T.reach_fail hr).elim
  · exact (T.reach_fail hr).elim

theorem entry_sound (hc : CxOk P Γ.G cx) {ρ : Env} {S : St} {a : Act} {w : World} (h : Rel Γ ρ S a w) {t : TypeId} {i : Nat} {x : SV} {e : Eff} (hw : wf x) (hr : T.Reach (entryE cx S t i x) e) :
    ∃ w', wf e.v ∧ (∀ p, e.v.ids p) ∧ (Instr.mapEntry t ((SV.mp i).den ρ) (x.den ρ)).run P w = .ok (e.v.den ρ) w' ∧ Rel Γ ρ { S with mem := memE S.mem e.w } a w' := by
  unfold entryE at hr
  split at hr
  · rename_i m agg sz k vk es hm hl
    split at hr
    · rename_i l he hk
      obtain ⟨rfl, rfl, rfl, rfl⟩ := mtEq_spec he
      rw [T.reach_ret] at hr; subst hr
      obtain ⟨h1, r, h2, h3, h4, h5⟩ := mapOk h hl
      have ty := mapTy_spec hc.tab hm
      obtain ⟨k1, k2⟩ := keyL_spec hw hk
      have hu : ∀ w, (underlying t).run P w = .ok (.map m.kt m.vt) w := fun w => by simp [underlying, ty.und]
      have hadd : ∀ p ∈ madd l es, p.1.length = m.sz := by
        unfold madd
        split
        · exact h1
        · intro p hp
          rcases List.mem_append.1 hp with hp | hp
          · exact h1 p hp
          · simp at hp; subst hp; exact k1
      refine ⟨_, by simp [wf, wfL], fun p => by simp [SV.ids, idsL], ?_, map_write h hl h2 hadd⟩
      rw [h5, k2 ρ]
      simp only [Instr.mapEntry, Sem.run_bind, hu, Result.andThen_ok, MapKept.run_getObj_map h4, ty.check _ _ _ k1, ty.find l es w k1 h1, SV.den, denL]
      rw [mfind_eq]
      cases hh : mhas l es with
      | true =>
        have hkey := ents_key m.agg m.k m.vk l es 0 hh
        have hg : (ents m.agg m.k m.vk 0 es).toArray[mix l es]? = some { key := keyV m.agg m.k l, val := .int m.vk (mget l es), born := 0 + mix l es } := by simpa using hkey
        have hmod : (ents m.agg m.k m.vk 0 es).toArray.modify (mix l es) (fun e => { e with key := keyV m.agg m.k l }) = (ents m.agg m.k m.vk 0 es).toArray := by
          apply Array.ext'
          simp only [Array.toList_modify, ents_same m.agg m.k m.vk l es hh]
        simp only [Nat.zero_add] at hg ⊢
        simp only [hg, Option.map_some, Option.getD_some, Sem.run_bind, run_stays, Result.andThen_ok, hmod, MapKept.run_setObj_map _ h4, Sem.run_pure, madd, hh, goInt]
      | false =>
        obtain ⟨hx1, hx2⟩ := mix_new hh
        have hpush : (ents m.agg m.k m.vk 0 es).toArray.push { key := keyV m.agg m.k l, val := .int m.vk 0, born := es.length } = (ents m.agg m.k m.vk 0 (es ++ [(l, 0)])).toArray := by
          apply Array.ext'
          rw [ents_append]
          simp [ents]
        simp only [Sem.run_bind, ty.zero, Result.andThen_ok, hpush, MapKept.run_setObj_map _ h4, Sem.run_pure, madd, hh, hx1, hx2, goInt, List.length_append, List.length_singleton]
    · exact (T.reach_fail hr).elim
  · exact (T.reach_fail hr).elim

theorem find_born (agg : Bool) (k vk : IntKind) : ∀ (es : List (List Int × Int)) (j b : Nat), b < es.length → (ents agg k vk j es).findIdx? (fun e => (e.born : Int) == ((j + b : Nat) : Int)) = some b
  | [], j, b, h => by simp at h
  | (l, x) :: es, j, b, h => by
    simp only [ents, List.findIdx?_cons]
    cases b with
    | zero => simp
    | succ b =>
      have : ((j : Int) == ((j + (b + 1) : Nat) : Int)) = false := by
        simp; omega
      simp only [this, Bool.false_eq_true, if_false]
      have ih := find_born agg k vk es (j + 1) b (by simpa using h)
      rw [show j + (b + 1) = j + 1 + b from by omega, ih]
      rfl

theorem estore_sound {ρ : Env} {S : St} {a : Act} {w : World} (h : Rel Γ ρ S a w) {t : TypeId} {i : Nat} {s x : SV} {e : Eff} (hr : T.Reach (estoreE S i s x) e) :
    ∃ w', e.v = .raw undef ∧ (Instr.entryStore t ((SV.mp i).den ρ) (s.den ρ) (x.den ρ)).run P w = .ok () w' ∧ Rel Γ ρ { S with mem := memE S.mem e.w } a w' := by
  unfold estoreE at hr
  split at hr
  · rename_i agg sz k vk es hl
    split at hr
    · rename_i b n hb hn
      rw [T.reach_need, T.reach_ret] at hr
      obtain ⟨⟨b0, b1, b2⟩, rfl⟩ := hr
      obtain ⟨h1, r, h2, h3, h4, h5⟩ := mapOk h hl
      have hw := map_write (es' := mset n b.toNat es) h hl h2 (mset_keys h1)
      refine ⟨_, rfl, ?_, hw⟩
      rw [h5, numI_spec hb, numI_spec hn]
      have hwr : IntKind.i64.wrap b = b := by rw [IntKind.wrap_i64]; omega
      have hidx : (ents agg k vk 0 es).toArray.findIdx? (fun e => (e.born : Int) == b) = some b.toNat := by
        rw [List.findIdx?_toArray]
        have := find_born agg k vk es 0 b.toNat (by omega)
        rw [Nat.zero_add] at this
        have hbb : ((b.toNat : Nat) : Int) = b := by omega
        rw [hbb] at this
        exact this
      have hmod : (ents agg k vk 0 es).toArray.modify b.toNat (fun e => { e with val := .int vk n }) = (ents agg k vk 0 (mset n b.toNat es)).toArray := by
        apply Array.ext'
        simp only [Array.toList_modify, ents_mset]
      simp only [Instr.entryStore, Sem.run_bind, MapKept.run_getObj_map h4, Result.andThen_ok, asInt, asIntOf, Sem.run_pure, hidx, hmod, MapKept.run_setObj_map _ h4, mset_length]
    · exact (T.reach_fail hr).elim
  · exact (T.reach_fail hr).elim

theorem mapUpd_sound (hc : CxOk P Γ.G cx) {ρ : Env} {S : St} {a : Act} {w : World} (h : Rel Γ ρ S a w) {t : TypeId} {i : Nat} {x v : SV} {e : Eff} (hw : wf x) (hr : T.Reach (mapUpdE cx S t i x v) e) :
    ∃ w', e.v = .raw undef ∧ (Instr.mapUpdate t ((SV.mp i).den ρ) (x.den ρ) (v.den ρ)).run P w = .ok () w' ∧ Rel Γ ρ { S with mem := memE S.mem e.w } a w' := by
  unfold mapUpdE at hr
  split at hr
  · rename_i m agg sz k vk es hm hl
    split at hr
    · rename_i l n he hk hv
      obtain ⟨rfl, rfl, rfl, rfl⟩ := mtEq_spec he
      rw [T.reach_ret] at hr; subst hr
      obtain ⟨h1, r, h2, h3, h4, h5⟩ := mapOk h hl
      have ty := mapTy_spec hc.tab hm
      obtain ⟨k1, k2⟩ := keyL_spec hw hk
      have hu : ∀ w, (underlying t).run P w = .ok (.map m.kt m.vt) w := fun w => by simp [underlying, ty.und]
      refine ⟨_, rfl, ?_, map_write h hl h2 (mput_keys k1 h1)⟩
      rw [h5, k2 ρ, numI_spec hv]
      simp only [Instr.mapUpdate, Sem.run_bind, hu, Result.andThen_ok, MapKept.run_getObj_map h4, ty.check _ _ _ k1, ty.find l es w k1 h1]
      rw [mfind_eq]
      cases hh : mhas l es with
      | true =>
        have hkey := ents_key m.agg m.k m.vk l es 0 hh
        have hg : (ents m.agg m.k m.vk 0 es).toArray[mix l es]? = some { key := keyV m.agg m.k l, val := .int m.vk (mget l es), born := 0 + mix l es } := by simpa using hkey
        have hmod : (ents m.agg m.k m.vk 0 es).toArray.modify (mix l es) (fun e => { e with key := keyV m.agg m.k l, val := .int m.vk n }) = (ents m.agg m.k m.vk 0 (mput l n es)).toArray := by
          apply Array.ext'
          simp only [Array.toList_modify, ents_put m.agg m.k m.vk l n es 0 hh]
        simp only [Nat.zero_add] at hg ⊢
        simp only [hg, Option.map_some, Option.getD_some, Sem.run_bind, run_stays, Result.andThen_ok, hmod, MapKept.run_setObj_map _ h4, mput_length hh]
      | false =>
        have hpush : (ents m.agg m.k m.vk 0 es).toArray.push { key := keyV m.agg m.k l, val := .int m.vk n, born := es.length } = (ents m.agg m.k m.vk 0 (es ++ [(l, n)])).toArray := by
          apply Array.ext'
          rw [ents_append]
          simp [ents]
        simp only [hpush, MapKept.run_setObj_map _ h4, mput_new hh, List.length_append, List.length_singleton]
    · exact (T.reach_fail hr).elim
  · exact (T.reach_fail hr).elim
end
end Go.Sx

/- The symbolic layer: strings: out of bytes; whether two are alike. -/
namespace Go.Sx
open Go.RowKit (Below)

def toB (x : Int) : UInt8 := UInt8.ofNat x.toNat
/-- Whether two strings are alike. -/
def strEq (a b : List Int) : Bool := a.map toB == b.map toB
theorem strEq_refl (a : List Int) : strEq a a = true := by simp [strEq]
theorem strEq_iff {a b : List Int} (ha : ∀ x ∈ a, 0 ≤ x ∧ x < 256) (hb : ∀ x ∈ b, 0 ≤ x ∧ x < 256) : strEq a b = true ↔ a = b := by
  have inj : ∀ x y : Int, 0 ≤ x ∧ x < 256 → 0 ≤ y ∧ y < 256 → toB x = toB y → x = y := fun x y hx hy h => by
    have := congrArg UInt8.toNat h
    simp only [toB, UInt8.toNat_ofNat'] at this
    omega
  simp only [strEq, beq_iff_eq]
  constructor
  · intro h
    induction a generalizing b with
    | nil => cases b <;> simp_all
    | cons x a ih =>
      cases b with
      | nil => simp at h
      | cons y b =>
        simp only [List.map_cons, List.cons.injEq] at h
        rw [inj x y (ha x (by simp)) (hb y (by simp)) h.1, ih (fun z hz => ha z (by simp [hz])) (fun z hz => hb z (by simp [hz])) h.2]
  · rintro rfl; rfl

def isStrT (tab : Tab) (t : TypeId) : Bool := match tab t with
  | some ti => match ti.d with
    | .string => true
    | _ => false
  | none => false
theorem isStrT_und {P : Program} {tab : Tab} (hT : TabOk P tab) {t : TypeId} (h : isStrT tab t = true) : P.underlying t = some .string := by
  unfold isStrT at h
  split at h
  · rename_i ti hti
    split at h
    · rename_i hd; rw [(hT _ _ hti).und, hd]
    · cases h
  · cases h
def isBytesT (tab : Tab) (t : TypeId) : Option TypeId := match tab t with
  | some ti => match ti.d with
    | .slice e => match tab e with
      | some te => match te.d with
        | .int k => match decide (k = .u8) with
          | true => some e
          | false => none
        | _ => none
      | none => none
    | _ => none
  | none => none
theorem isBytesT_und {P : Program} {tab : Tab} (hT : TabOk P tab) {t e : TypeId} (h : isBytesT tab t = some e) : P.underlying t = some (.slice e) ∧ P.underlying e = some (.int .u8) := by
  unfold isBytesT at h
  split at h
  · rename_i ti hti
    split at h
    · rename_i e' hd
      split at h
      · rename_i te hte
        split at h
        · rename_i k hk
          split at h
          · rename_i hku
            have hku := of_decide_eq_true hku
            cases h
            exact ⟨by rw [(hT _ _ hti).und, hd], by rw [(hT _ _ hte).und, hk, hku]⟩
          · cases h
        · cases h
      · cases h
    · cases h
  · cases h

theorem vecCont_nil {Γ : Gam} {ρ : Env} {S : St} {a : Act} {w : World} (h : Rel Γ ρ S a w) {i : Nat} {V : VI} (hV : vecAt S.mem i = some V) (h0 : V.n * V.st = 0) : V.cont = [] := by
  unfold VI.cont
  cases hw : V.whole with
  | true =>
    have hl : V.l.length = V.n * V.st := by
      unfold vecAt at hV
      split at hV
      · rename_i hl; cases hV; exact vecOk_len (h.mem i _ hl).1.vec
      · split at hV
        · split at hV
          · cases hV; cases hw
          · cases hV
        · cases hV
      · cases hV
    rw [h0] at hl
    exact List.eq_nil_of_length_eq_zero hl
  | false => simp [sub, h0]

/-- A slice of bytes as a string. -/
def strE (cx : Cx) (S : St) (src dst : TypeId) (i : Nat) : T Eff :=
  match isBytesT cx.tab src, isStrT cx.tab dst, vecAt S.mem i with
  | some _, true, some V => match decide (V.k = .u8), Nat.beq V.st 1 with
    | true, true => .ret ⟨.str V.cont, []⟩
    | _, _ => .fail "a string: of what bytes"
  | _, _, _ => .fail "a string: of what"

theorem strV_fold (ns : List Int) : ∀ s : ByteArray, ns.foldl (fun r n => r.push (UInt8.ofNat n.toNat)) s = ⟨s.data ++ (ns.map toB).toArray⟩ := by
  induction ns with
  | nil => intro s; simp
  | cons n ns ih =>
    intro s
    rw [List.foldl_cons, ih]
    cases s
    simp [ByteArray.push, toB]

theorem strE_sound {P : Program} {Γ : Gam} {cx : Cx} (hc : CxOk P Γ.G cx) {ρ : Env} {S : St} {a : Act} {w : World} (h : Rel Γ ρ S a w) {src dst : TypeId} {i : Nat} {e : Eff} (hr : T.Reach (strE cx S src dst i) e) :
    ∃ v, e = ⟨v, []⟩ ∧ wf v ∧ (∀ p, v.ids p) ∧ (convert src dst ((SV.sl i).den ρ)).run P w = .ok (v.den ρ) w := by
  unfold strE at hr
  split at hr
  · rename_i el V hb hs hV
    split at hr
    · rename_i hk hst
      have hk := of_decide_eq_true hk
      have hst := Nat.eq_of_beq_eq_true hst
      rw [T.reach_ret] at hr; subst hr
      obtain ⟨hu1, hu2⟩ := isBytesT_und hc.tab hb
      have hu3 := isStrT_und hc.tab hs
      refine ⟨_, rfl, by simp only [wf], fun p => by simp [SV.ids], ?_⟩
      obtain ⟨ao, c, h1, h2, h3⟩ := h.vec_cont hV
      have hden : (SV.sl i).den ρ = .slice ao V.n c := by simp only [SV.den, h1]; rfl
      rw [hden, run_convert_bytes_string w src dst el ao V.n c hu1 hu2 hu3]
      rw [hst, Nat.mul_one] at h3
      cases ao with
      | none =>
        have hcont : V.cont = [] := by
          rcases h3 with h3 | ⟨g, o, e1, -⟩
          · exact vecCont_nil h hV (by rw [hst, Nat.mul_one]; exact h3)
          · cases e1
        rw [hcont]
        simp [Conv.bytesToString, SV.den, strV]
        rfl
      | some p =>
        have hload : (loadCells p V.n).run P w = .ok (V.cont.map (Value.int .u8)).toArray w := by
          rcases h3 with h3 | ⟨g, o, e1, e2, e3⟩
          · have hcont := vecCont_nil h hV (by rw [hst, Nat.mul_one]; exact h3)
            rw [hcont, h3]; rfl
          · cases e1
            refine run_loadCells P g o w (by simpa using e2) fun j u hj => e3 j u (by rw [hk]; exact hj)
        rw [run_bytesToString w p V.n c V.cont hload, strV_fold]
        simp only [SV.den, strV]
        rw [show (ByteArray.empty.data ++ (V.cont.map toB).toArray : Array UInt8) = (V.cont.map fun x => UInt8.ofNat x.toNat).toArray from by
          show (#[] : Array UInt8) ++ (V.cont.map toB).toArray = _
          rw [Array.empty_append]; rfl]
    · exact (T.reach_fail hr).elim
  · exact (T.reach_fail hr).elim

/-- A slice of bytes that was a text's: it bears the mark from now on. -/
def markE (cx : Cx) (S : St) (src dst : TypeId) (i : Nat) : T Eff :=
  match Nat.beq src dst, isBytesT cx.tab src, look S.mem i with
  | true, some _, some (.vec true e k st n l) => match mkE e with
    | false => .need (0 < n) (.ret ⟨.sl i, [(i, .vec true (1000000 + e) k st n l)]⟩)
    | true => .fail "the mark: it is there"
  | _, _, _ => .fail "convert: a slice"

theorem run_mark {P : Program} (w : World) (t e el : TypeId) (g n c : Nat) (cur : Array Value) (hg : w.heap[g]? = some (.cells cur el (0, 0))) (ht : P.underlying t = some (.slice e)) (he : P.underlying e = some (.int .u8)) :
    (convert t t (.slice (some ⟨g, 0, none⟩) n c)).run P w = .ok (.slice (some ⟨g, 0, none⟩) n c) (w.freeze ⟨g, cur.size, none⟩ 1) := by
  have hsh : w.shape? g = some (el, cur.size) := by unfold World.shape?; rw [hg]
  simp [convert, run_underlying ht, run_underlying he, markStringish, hsh]

theorem mark_sound {P : Program} {Γ : Gam} {cx : Cx} (hc : CxOk P Γ.G cx) {ρ : Env} {S : St} {a : Act} {w : World} (h : Rel Γ ρ S a w) {src dst : TypeId} {i : Nat} {e : Eff} (hr : T.Reach (markE cx S src dst i) e) :
    ∃ w', e.v = .sl i ∧ ({ S with mem := memE S.mem e.w } : St).has i ∧ (convert src dst ((SV.sl i).den ρ)).run P w = .ok ((SV.sl i).den ρ) w' ∧ Rel Γ ρ { S with mem := memE S.mem e.w } a w' := by
  unfold markE at hr
  split at hr
  · rename_i el te k st n l hsd hb hl
    have hsd := Nat.eq_of_beq_eq_true hsd
    subst hsd
    split at hr
    · rename_i hme
      rw [T.reach_need, T.reach_ret] at hr
      obtain ⟨hn, rfl⟩ := hr
      obtain ⟨hu1, hu2⟩ := isBytesT_und hc.tab hb
      have hv : VecOwn w Γ.w0.heap.size te st (ρ.vec i) n (l.map (Value.int k)) := VecOwm.strip (h.mem _ _ hl).1.vec hme
      rcases hv with ⟨ao, -, rfl, -⟩ | ⟨g, c, hcp, hval, ho⟩
      · omega
      · rcases ho.2 with ⟨hz, -⟩ | ⟨g2, cap2, cur, hz, hbg, hg, hnc, hcm, hcs, htake⟩
        · rw [hval] at hz; cases hz
        · rw [hval] at hz
          cases hz
          have hden : (SV.sl i).den ρ = .slice (some ⟨g, 0, none⟩) n c := by simp only [SV.den, hval]; rfl
          have hlt := (Array.getElem?_eq_some_iff.1 hg).1
          have hnew : (w.freeze ⟨g, cur.size, none⟩ 1).heap[g]? = some (.cells cur te (cur.size, cur.size + 1)) := by
            simp only [World.freeze, if_neg (show ¬ (1 : Nat) = 0 from by decide)]
            rw [Array.getElem?_eq_getElem (by rw [Array.size_modify]; exact hlt), Array.getElem_modify_self]
            have := (Array.getElem?_eq_some_iff.1 hg).2
            rw [this]; rfl
          have hgr : w.grownBy (w.freeze ⟨g, cur.size, none⟩ 1) (some g) := ⟨rfl, rfl, rfl, by simp [World.freeze], fun k' _ hk => by
            simp only [World.freeze, if_neg (show ¬ (1 : Nat) = 0 from by decide)]
            rw [Array.getElem?_modify, if_neg (fun e => hk (by rw [e]))]⟩
          have hp : phys ρ i (.vec true te k st n l) = some g := by simp only [phys, hval]; exact physV_row hcp
          have hp' : phys ρ i (.vec true (1000000 + te) k st n l) = some g := by simp only [phys, hval]; exact physV_row hcp
          refine ⟨_, rfl, by simp [St.has, memE, look_upd], by rw [hden]; exact run_mark w _ _ _ g n c cur hg hu1 hu2, ?_⟩
          simp only [memE]
          refine h.update hl hp hp' hgr ⟨trivial, fun j u hj => (by cases hj), fun hh => (by cases hh), fun _ hh => (by cases hh), ?_⟩ trivial
          exact .inr ⟨Nat.ble_eq_true_of_le (by omega), g, c, hcp, hval, hbg, ho.1, hnc, cur, te, hnew, hcs, htake⟩
    · exact (T.reach_fail hr).elim
  · exact (T.reach_fail hr).elim

/-- Two strings. -/
def strsE (cx : Cx) (eq : Bool) (t : TypeId) (x y : List Int) : T Eff := match isStrT cx.tab t with
  | true => .ret ⟨.bool (strEq x y == eq), []⟩
  | false => .fail "two strings: type"
theorem strsE_sound {P : Program} {Γ : Gam} {cx : Cx} (hc : CxOk P Γ.G cx) {ρ : Env} {w : World} {eq : Bool} {t : TypeId} {x y : List Int} {e : Eff} (hr : T.Reach (strsE cx eq t x y) e) :
    ∃ v, e = ⟨v, []⟩ ∧ wf v ∧ (∀ p, v.ids p) ∧ (binOp (cond eq .eql .neq) t (strV x) (strV y)).run P w = .ok (v.den ρ) w := by
  unfold strsE at hr
  split at hr
  · rename_i hs
    rw [T.reach_ret] at hr; subst hr
    have hu := isStrT_und hc.tab hs
    refine ⟨_, rfl, by simp only [wf], fun p => by simp [SV.ids], ?_⟩
    have hl : ∀ l : List UInt8, (⟨l.toArray⟩ : ByteArray).toList = l := fun l => by simp [ByteArray.toList_eq]
    have hq : ((⟨(x.map toB).toArray⟩ : ByteArray).toList == (⟨(y.map toB).toArray⟩ : ByteArray).toList) = strEq x y := by rw [hl, hl]; rfl
    cases eq with
    | true =>
      show (binOp .eql t (.string ⟨(x.map toB).toArray⟩) (.string ⟨(y.map toB).toArray⟩)).run P w = _
      rw [binOp_string_eql, hq]
      simp [SV.den]
    | false =>
      show (binOp .neq t (.string ⟨(x.map toB).toArray⟩) (.string ⟨(y.map toB).toArray⟩)).run P w = _
      rw [binOp_string_neq, hq]
      cases hb : strEq x y <;> simp [SV.den]
  · exact (T.reach_fail hr).elim
end Go.Sx

/- The symbolic layer, part J: an operation as a step of the symbolic state, and that the step is the operation's. -/
namespace Go.Sx
open Go.RowKit (Below)

def loadS (cx : Cx) (S : St) (t : TypeId) (x : SV) : T SV :=
  match cx.tab t, x with
  | some ti, .ptr b o y => match look S.mem b with
    | some blk => match TypeDesc.isAggB ti.d with
      | true => readBlk blk o y ti.sz false
      | false => readBlk blk o y 1 true
    | none => .fail "load: no such block"
  | some ti, .vptr i o => match vecAt S.mem i with
    | some V => match TypeDesc.isAggB ti.d with
      | true => match Nat.blt 0 ti.sz with
        | true => readV V o ti.sz false
        | false => .fail "load: of no size"
      | false => readV V o 1 true
    | none => .fail "load: no such vector"
  | _, _ => .fail "load"

def allocE (S : St) (ps : List SV) : T Eff :=
  match look S.mem S.next, Nat.blt S.next 1000000 with
  | none, true => .ret ⟨.ptr S.next 0 (.lit 0), [(S.next, .st true ps)]⟩
  | _, _ => .fail "alloc: the number is taken"

def storeE (cx : Cx) (S : St) (t : TypeId) (x v : SV) : T Eff :=
  match cx.tab t, x with
  | some ti, .ptr b o y => match look S.mem b with
    | some blk => match blk.own with
      | true => (atomsOf v).bind fun vs => match Nat.beq (widthL vs) ti.sz with
        | true => (writeBlk blk o y ti.sz vs).bind fun blk' => .ret ⟨.raw undef, [(b, blk')]⟩
        | false => .fail "store: size"
      | false => .fail "store: into what came in"
    | none => .fail "store: no such block"
  | some ti, .vptr i o => (atomsOf v).bind fun vs => match Nat.beq (widthL vs) ti.sz, Nat.blt 0 ti.sz with
    | true, true => (writeV S i o ti.sz vs).bind fun ws => .ret ⟨.raw undef, ws⟩
    | _, _ => .fail "store: size"
  | _, _ => .fail "store"

def copyE (cx : Cx) (S : St) (t : TypeId) (x y : SV) : T Eff :=
  match cx.tab t, x, y with
  | some ti, .slice b o z len _, .slice b' o' z' len' _ => match ti.d, len, len' with
    | .slice e, .lit n, .lit m => match cx.tab e, look S.mem b, look S.mem b' with
      | some te, some blk, some blk' => match blk.own with
        | true => (readBlk blk' o' z' (Nat.min m n * te.sz) false).bind fun v => (atomsOf v).bind fun vs => (writeBlk blk o z (Nat.min m n * te.sz) vs).bind fun blk'' =>
          match Nat.beq (widthL vs) (Nat.min m n * te.sz) with
          | true => .ret ⟨.lit .i64 (Nat.min m n), [(b, blk'')]⟩
          | false => .fail "copy: size"
        | false => .fail "copy: into what came in"
      | _, _, _ => .fail "copy: no such block"
    | _, _, _ => .fail "copy: lengths"
  | _, _, _ => .fail "copy"

/-- 'copy', out of a slice. -/
def copyV (cx : Cx) (S : St) (t : TypeId) (x : SV) (j : Nat) : T Eff :=
  match cx.tab t, x, vecAt S.mem j with
  | some ti, .slice b o z (.lit n) _, some V => match ti.d with
    | .slice e => match cx.tab e, look S.mem b with
      | some te, some blk => match blk.own, Nat.blt 0 (Nat.min V.n n * te.sz) with
        | true, true => (readV V 0 (Nat.min V.n n * te.sz) false).bind fun v => (atomsOf v).bind fun vs => (writeBlk blk o z (Nat.min V.n n * te.sz) vs).bind fun blk'' =>
          match Nat.beq (widthL vs) (Nat.min V.n n * te.sz) with
          | true => .ret ⟨.lit .i64 (Nat.min V.n n), [(b, blk'')]⟩
          | false => .fail "copy: size"
        | _, _ => .fail "copy: into what came in"
      | _, _ => .fail "copy: no such block"
    | _ => .fail "copy: no slice"
  | _, _, _ => .fail "copy: what"

def effS (cx : Cx) (S : St) (o : Oper) : T Eff :=
  match pureS cx o (evS S) with
  | some t => t.bind fun v => .ret ⟨v, []⟩
  | none => match o.op with
    | .alloc t => match cx.tab t with
      | some ti => (atomsOf ti.z).bind fun ps => allocE S ps
      | none => .fail "alloc: type"
    | .box _ x => (atomsOf (evS S x)).bind fun ps => allocE S ps
    | .load t x => (loadS cx S t (evS S x)).bind fun v => .ret ⟨v, []⟩
    | .store t x v => storeE cx S t (evS S x) (evS S v)
    | .call c => match c.callee with
      | .value f => match evS S f with
        | .fn g caps => match cx.fn g with
          | some spec => (spec (c.args.toList.map (evS S) ++ caps)).bind fun v => .ret ⟨v, []⟩
          | none => match cx.fnm g with
            | some spec => match look S.mem S.next, Nat.blt S.next 1000000 with
              | none, true => (spec (c.args.toList.map (evS S) ++ caps) ((slsL (c.args.toList.map (evS S) ++ caps)).map (vecAt S.mem)) S.next).bind fun r => .ret ⟨r.1, oneE S.next r.2⟩
              | _, _ => .fail "call: the number is taken"
            | none => .fail "call: no contract"
        | _ => .fail "call: of what"
      | .builtin .copy => match c.argTypes[0]?, c.args[0]?, c.args[1]? with
        | some t, some x, some y => match evS S y with
          | .sl j => copyV cx S t (evS S x) j
          | _ => copyE cx S t (evS S x) (evS S y)
        | _, _, _ => .fail "copy: arguments"
      | .builtin .len => match c.argTypes[0]?, c.args[0]? with
        | some t, some x => match evS S x with
          | .sl i => lenV cx S t i
          | _ => .fail "len: what"
        | _, _ => .fail "len: arguments"
      | .builtin .append => match c.argTypes.toList, c.args.toList with
        | [t, t'], [x, y] => match Nat.beq t t' with
          | true => appE cx S t (evS S x) (evS S y)
          | false => .fail "append: types"
        | _, _ => .fail "append: arguments"
      | _ => .fail "call: a builtin"
    | .indexAddr t x i => match evS S x with
      | .sl j => idxV cx S t j (evS S i)
      | _ => .fail "index: what"
    | .slice t x lo hi mx => match evS S x with
      | .sl j => sliE cx S t j (lo.map (evS S)) (hi.map (evS S)) (mx.map (evS S))
      | _ => .fail "slice: what"
    | .binOp op t x y _ => match evS S x, evS S y with
      | .sl i, .raw (.slice none 0 0) => match op with
        | .eql => nilE S true cx t i
        | .neq => nilE S false cx t i
        | _ => .fail "nil: what"
      | .str a, .str b => match op with
        | .eql => strsE cx true t a b
        | .neq => strsE cx false t a b
        | _ => .fail "two strings: what"
      | _, _ => .fail "two values: what"
    | .convert src dst x => match evS S x with
      | .sl j => match isStrT cx.tab dst with
        | true => strE cx S src dst j
        | false => markE cx S src dst j
      | _ => .fail "convert: what"
    | .makeSlice t l c => makeE cx S t (evS S l) (evS S c)
    | .makeMap t r => match r with
      | none => mkMapE cx S t
      | some _ => .fail "a map: reserve"
    | .lookup t m x ok => match ok, evS S m with
      | false, .mp i => lookupE cx S t i (evS S x)
      | _, _ => .fail "a map's number: what"
    | .mapEntry t m x => match evS S m with
      | .mp i => entryE cx S t i (evS S x)
      | _ => .fail "a map's entry: what"
    | .entryStore _ m s x => match evS S m with
      | .mp i => estoreE S i (evS S s) (evS S x)
      | _ => .fail "a map's entry: what"
    | .mapUpdate t m x v => match evS S m with
      | .mp i => mapUpdE cx S t i (evS S x) (evS S v)
      | _ => .fail "a map: what"
    | .buildSlice t len parts => bldV cx S t len (parts.toList.map fun x => (x.1, evS S x.2))
    | _ => .fail "an operation that is not known here"


/-- An operation as a step of the symbolic state. -/
def stepS (cx : Cx) (S : St) (o : Oper) : T St := (effS cx S o).bind fun e => .ret { e.on S o.dst with next := S.next + 1 }

theorem Rel.eval_eq {Γ : Gam} {ρ : Env} {S : St} {a : Act} {w : World} (h : Rel Γ ρ S a w) (hg : GlobOk Γ) : a.eval = fun x => (evS S x).den ρ := funext fun x => h.ev hg x

theorem readOpn_ids {p : Nat → Prop} {ps : List SV} {o i c : Nat} {sc : Bool} {v : SV} (hr : T.Reach (readOpn ps o i c sc) v) : v.ids p := by
  unfold readOpn at hr
  split at hr
  · rw [T.reach_need] at hr
    obtain ⟨-, hr⟩ := hr
    split at hr <;> (rw [T.reach_ret] at hr; subst hr; simp [SV.ids])
  · exact (T.reach_fail hr).elim

theorem readDyn_ids {p : Nat → Prop} {k : IntKind} {l : List Int} {i c : Nat} {sc : Bool} {v : SV} (hr : T.Reach (readDyn k l i c sc) v) : v.ids p := by
  unfold readDyn at hr
  rw [T.reach_need] at hr
  obtain ⟨-, hr⟩ := hr
  split at hr <;> (rw [T.reach_ret] at hr; subst hr; simp [SV.ids])

theorem readBlk_ids {p : Nat → Prop} {b : Blk} {o c : Nat} {x : SN} {sc : Bool} {v : SV} (h : b.ids p) (hr : T.Reach (readBlk b o x c sc) v) : v.ids p := by
  unfold readBlk at hr
  split at hr
  · split at hr
    · exact readSt_ids h hr
    · exact readOpn_ids hr
    · exact (T.reach_fail hr).elim
  · split at hr
    · exact readDyn_ids hr
    · exact readDyn_ids hr
    · exact (T.reach_fail hr).elim
  · exact (T.reach_fail hr).elim
  · exact (T.reach_fail hr).elim
  · exact (T.reach_fail hr).elim
  · exact (T.reach_fail hr).elim
  · exact (T.reach_fail hr).elim

section
variable {P : Program} {Γ : Gam} {cx : Cx}

/-- A new row of cells. -/
theorem Rel.newRow {ρ : Env} {S : St} {a : Act} {w : World} (h : Rel Γ ρ S a w) {ps : List SV} {e : Eff} (hr : T.Reach (allocE S ps) e) (hat : ∀ p ∈ ps, isAtom p) (hid : idsL S.has ps) (el : TypeId) (dst : Option Tmp) {n' : Nat} (hn : Γ.n0 ≤ n') :
    ∃ ρ', Rel Γ ρ' { e.on S dst with next := n' } (a.put dst (.pointer (some ⟨w.heap.size, 0, none⟩))) { w with heap := w.heap.push (.cells (cellsL ρ ps).toArray el) } := by
  unfold allocE at hr
  split at hr
  · rename_i hl hlt
    rw [T.reach_ret] at hr; subst hr
    have hlt : S.next < 1000000 := Nat.le_of_ble_eq_true hlt
    have hni : ¬ Γ.pinned S.next := by
      rintro (hp | hp)
      · have := h.nx; omega
      · omega
    have hb : Below w.heap.size w { w with heap := w.heap.push (.cells (cellsL ρ ps).toArray el) } := ⟨rfl, rfl, rfl, by simp, fun k hk => heap_alloc_lt _ _ hk⟩
    have hnew : ({ w with heap := w.heap.push (.cells (cellsL ρ ps).toArray el) } : World).heap[w.heap.size]? = some (.cells (cellsL ρ ps).toArray el) := by simp
    have := h.alloc (i := S.next) (b := .st true ps) (cap := 0) hb hl hni rfl hat hid (by simp)
      (fun j v hj => by simp only [World.cell?, hnew]; simpa [Blk.cells] using hj)
      (fun j => by simp only [World.frozen?, hnew]; simp) S.next h.nx
    have h2 := this.put dst (v := .ptr S.next 0 (.lit 0)) (by simp only [wf]) (by simp only [SV.ids, SN.ids]; exact ⟨by simp [St.has, look_upd], trivial⟩)
    have hv : (SV.ptr S.next 0 (.lit 0)).den (ρ.set S.next w.heap.size 0 0) = .pointer (some ⟨w.heap.size, 0, none⟩) := by simp [SV.den, SN.den, Env.set]
    rw [hv] at h2
    exact ⟨_, h2.next hn⟩
  · exact (T.reach_fail hr).elim

theorem callFn_wp {o : Oper} {a : Act} {w w' : World} {K : Act → World → Prop} {Q : Exit → Act → World → Prop} {g : FuncId} {args : Array Value} (h : (execOp a.eval o).run P w = .ok (.enter g args) w')
    (hc : Calls P g args w' (fun e w'' => ∃ v, e = .returned v ∧ K (a.put o.dst v) w'')) : o.wp P a w K Q := by
  unfold Oper.wp
  rw [h, Oper.upon_enter]
  exact hc.mono fun e w'' ⟨v, he, hk⟩ => by subst he; exact hk

theorem value_wp {o : Oper} {a : Act} {w w' : World} {K : Act → World → Prop} {Q : Exit → Act → World → Prop} {v : Value} (h : (execOp a.eval o).run P w = .ok (.value v) w') (hk : K (a.put o.dst v) w') : o.wp P a w K Q := by
  unfold Oper.wp
  rw [h, Oper.upon_value]
  exact hk

theorem skip_wp {o : Oper} {a : Act} {w w' : World} {K : Act → World → Prop} {Q : Exit → Act → World → Prop} (h : (execOp a.eval o).run P w = .ok .skip w') (hk : K (a.put o.dst undef) w') : o.wp P a w K Q := by
  unfold Oper.wp
  rw [h, Oper.upon_skip]
  exact hk

theorem load_sound (hc : CxOk P Γ.G cx) {ρ : Env} {S : St} {a : Act} {w : World} (h : Rel Γ ρ S a w) {t : TypeId} {x v : SV} (hr : T.Reach (loadS cx S t x) v) :
    wf v ∧ v.ids S.has ∧ (Instr.loadAt t (x.den ρ)).run P w = .ok (v.den ρ) w := by
  unfold loadS at hr
  split at hr
  · rename_i ti b o y hti
    split at hr
    · rename_i blk hblk
      obtain ⟨hok, hids⟩ := h.mem b blk hblk
      have hagg : (isAgg t).run P w = .ok (TypeDesc.isAggB ti.d) w := run_isAgg (hc.tab _ _ hti)
      have hsz : (Go.sizeOf t).run P w = .ok ti.sz w := run_size (hc.tab _ _ hti)
      split at hr
      · rename_i hag
        obtain ⟨hwf, hg1, hg2⟩ := got_blk (ρ := ρ) (fun e => by cases e) hok.atoms hr
        refine ⟨hwf, readBlk_ids hids hr, ?_⟩
        have hl := run_loadCells P (ρ.blk b) (ρ.off b + (o + y.den ρ)) w (n := ti.sz) (cs := ((blk.cells ρ).drop (o + y.den ρ)).take ti.sz) (by simp; omega) (fun j v hj => by
          rw [List.getElem?_take] at hj
          split at hj
          · rw [List.getElem?_drop] at hj
            have := hok.cell _ _ hj
            rw [show ρ.off b + (o + y.den ρ) + j = ρ.off b + (o + y.den ρ + j) from by omega]; exact this
          · cases hj)
        simp only [SV.den, Instr.loadAt, Instr.sureAddr, loadVar, Sem.run_bind, Sem.run_pure, Result.andThen_ok, hagg, hag, if_true, hsz, hl, hg1]
      · rename_i hag
        obtain ⟨hwf, hg1, hg2⟩ := got_blk (ρ := ρ) (fun e => rfl) hok.atoms hr
        refine ⟨hwf, readBlk_ids hids hr, ?_⟩
        have := hok.cell _ _ hg1
        simp only [SV.den, Instr.loadAt, Instr.sureAddr, loadVar, Sem.run_bind, Sem.run_pure, Result.andThen_ok, hagg, hag, Bool.false_eq_true, if_false, load, Sem.run, this]
    · exact (T.reach_fail hr).elim
  · rename_i ti i o hti
    have hagg : (isAgg t).run P w = .ok (TypeDesc.isAggB ti.d) w := run_isAgg (hc.tab _ _ hti)
    have hsz : (Go.sizeOf t).run P w = .ok ti.sz w := run_size (hc.tab _ _ hti)
    split at hr
    · rename_i V hV
      split at hr
      · rename_i hag
        split at hr
        · rename_i h0
          obtain ⟨a1, a2, g, p, ⟨m, cc, e1, -⟩, cs, c1, c2, -, c3⟩ := readV_sound h hV (Nat.le_of_ble_eq_true h0) (fun e => by cases e) hr
          refine ⟨a1, a2 _, ?_⟩
          have hl := run_loadCells P g (p + o) w c1 c3
          simp only [SV.den, e1, cellV, addv, Instr.loadAt, Instr.sureAddr, loadVar, Sem.run_bind, Sem.run_pure, Result.andThen_ok, hagg, hag, if_true, hsz, hl, c2]
        · exact (T.reach_fail hr).elim
      · rename_i hag
        obtain ⟨a1, a2, g, p, ⟨m, cc, e1, -⟩, c1⟩ := readV_sound h hV (Nat.one_pos) (fun _ => rfl) hr
        refine ⟨a1, a2 _, ?_⟩
        simp only [SV.den, e1, cellV, addv, Instr.loadAt, Instr.sureAddr, loadVar, Sem.run_bind, Sem.run_pure, Result.andThen_ok, hagg, hag, Bool.false_eq_true, if_false, load, Sem.run, c1]
    · exact (T.reach_fail hr).elim
  · exact (T.reach_fail hr).elim

theorem load_ptr {ρ : Env} {S : St} {a : Act} {w : World} (h : Rel Γ ρ S a w) {t : TypeId} {x v : SV} (hr : T.Reach (loadS cx S t x) v) : ∃ ad, x.den ρ = .pointer (some ad) := by
  unfold loadS at hr
  split at hr
  · exact ⟨_, rfl⟩
  · rename_i ti i o hti
    split at hr
    · rename_i V hV
      split at hr
      · split at hr
        · rename_i h0
          obtain ⟨a1, a2, g, p, ⟨m, cc, e1, -⟩, -⟩ := readV_sound h hV (Nat.le_of_ble_eq_true h0) (fun e => by cases e) hr
          exact ⟨⟨g, p + o, none⟩, by simp only [SV.den, e1, cellV, addv]⟩
        · exact (T.reach_fail hr).elim
      · obtain ⟨a1, a2, g, p, ⟨m, cc, e1, -⟩, -⟩ := readV_sound h hV (Nat.one_pos) (fun _ => rfl) hr
        exact ⟨⟨g, p + o, none⟩, by simp only [SV.den, e1, cellV, addv]⟩
    · exact (T.reach_fail hr).elim
  · exact (T.reach_fail hr).elim

theorem one_cells_all {ρ : Env} {ps : List SV} (h : ∀ p ∈ ps, isAtom p) : ∀ v ∈ cellsL ρ ps, one v = true := by
  induction ps with
  | nil => intro v hv; simp [cellsL] at hv
  | cons p ps ih =>
    intro v hv
    simp only [cellsL, List.mem_append] at hv
    rcases hv with hv | hv
    · have hp := h p (by simp)
      by_cases hn : ∃ k n l, p = .ints k n l
      · obtain ⟨k, n, l, rfl⟩ := hn
        simp [SV.den, Value.cells] at hv
        obtain ⟨n, -, rfl⟩ := hv; rfl
      · have h1 := den_one (ρ := ρ) hp (fun k n l e => hn ⟨k, n, l, e⟩)
        rw [one_cells h1] at hv
        simp at hv
        rw [hv]; exact h1
    · exact ih (fun q hq => h q (by simp [hq])) v hv

/-- Stores into a block of the call's own. -/
theorem write_sound {ρ : Env} {S : St} {a : Act} {w : World} (h : Rel Γ ρ S a w) {b o c : Nat} {y : SN} {blk blk' : Blk} {vs : List SV} (hl : look S.mem b = some blk) (hown : blk.own = true) (hva : ∀ p ∈ vs, isAtom p) (hvi : idsL S.has vs)
    (hw : widthL vs = c) (hr : T.Reach (writeBlk blk o y c vs) blk') :
    ∃ w', (storeCells ⟨ρ.blk b, ρ.off b + (o + y.den ρ), none⟩ (cellsL ρ vs)).run P w = .ok () w' ∧ Rel Γ ρ { S with mem := upd S.mem b blk' } a w' := by
  obtain ⟨hok, hids⟩ := h.mem b blk hl
  obtain ⟨hp, hat, ho⟩ := put_blk (ρ := ρ) hok.atoms hva hw hr
  obtain ⟨m1, m2, m3⟩ := hok.mine hown
  obtain ⟨w', hrun, hst⟩ := run_storeCells P (cellsL ρ vs) (ρ.blk b) (ρ.off b + (o + y.den ρ)) 0 w (one_cells_all hva)
    (fun j hj => by
      have hle := hp.2
      have : o + y.den ρ + j < (blk.cells ρ).length := by omega
      refine ⟨(blk.cells ρ)[o + y.den ρ + j]'this, ?_⟩
      rw [show ρ.off b + (o + y.den ρ) + 0 + j = ρ.off b + (o + y.den ρ + j) from by omega]
      exact hok.cell _ _ (List.getElem?_eq_getElem this))
    (fun j hj => by
      have hle := hp.2
      rw [show ρ.off b + (o + y.den ρ) + 0 + j = ρ.off b + (o + y.den ρ + j) from by omega]
      exact m3 _ (by omega))
  refine ⟨w', hrun, h.store (o := o + y.den ρ) hl hown hp hat ho (writeBlk_ids hids hvi hr) ?_⟩
  simpa using hst

theorem store_sound (hc : CxOk P Γ.G cx) {ρ : Env} {S : St} {a : Act} {w : World} (h : Rel Γ ρ S a w) {t : TypeId} {x v : SV} {e : Eff} (hwf : wf v) (hid : v.ids S.has) (hr : T.Reach (storeE cx S t x v) e) :
    ∃ w', (Instr.storeAt t (x.den ρ) (v.den ρ)).run P w = .ok () w' ∧ Rel Γ ρ { S with mem := memE S.mem e.w } a w' ∧ e.v = .raw undef := by
  unfold storeE at hr
  split at hr
  · rename_i ti b o y hti
    split at hr
    · rename_i blk hblk
      split at hr
      · rename_i hown
        rw [T.reach_bind] at hr
        obtain ⟨vs, hvs, hr⟩ := hr
        split at hr
        · rename_i hw
          have hw := Nat.eq_of_beq_eq_true hw
          rw [T.reach_bind] at hr
          obtain ⟨blk', hb', hr⟩ := hr
          rw [T.reach_ret] at hr; subst hr
          have hva := atomsOf_atoms hwf hvs
          obtain ⟨w', hrun, hrel⟩ := write_sound (P := P) h hblk hown hva (atomsOf_ids hid hvs) hw hb'
          refine ⟨w', ?_, hrel, rfl⟩
          have hsz : (Go.sizeOf t).run P w = .ok ti.sz w := run_size (hc.tab _ _ hti)
          have hcs := atomsOf_cells (ρ := ρ) hvs
          have hlen : (v.den ρ).cells.size = ti.sz := by rw [← Array.length_toList, ← hcs, cellsL_length hva, hw]
          simp only [SV.den, Instr.storeAt, Instr.sureAddr, storeVar, Sem.run_bind, Sem.run_pure, Result.andThen_ok, hsz, Sem.run_ite, hlen, ne_eq, not_true, if_false]
          rw [← hcs]; exact hrun
        · exact (T.reach_fail hr).elim
      · exact (T.reach_fail hr).elim
    · exact (T.reach_fail hr).elim
  · rename_i ti i o hti
    rw [T.reach_bind] at hr
    obtain ⟨vs, hvs, hr⟩ := hr
    split at hr
    · rename_i hw h0
      have hw := Nat.eq_of_beq_eq_true hw
      rw [T.reach_bind] at hr
      obtain ⟨ws, hws, hr⟩ := hr
      rw [T.reach_ret] at hr; subst hr
      have hva := atomsOf_atoms hwf hvs
      obtain ⟨g, p, m, cc, w', e1, hrun, hrel⟩ := writeV_sound (P := P) h hva hw (Nat.le_of_ble_eq_true h0) hws
      refine ⟨w', ?_, hrel, rfl⟩
      have hsz : (Go.sizeOf t).run P w = .ok ti.sz w := run_size (hc.tab _ _ hti)
      have hcs := atomsOf_cells (ρ := ρ) hvs
      have hlen : (v.den ρ).cells.size = ti.sz := by rw [← Array.length_toList, ← hcs, cellsL_length hva, hw]
      simp only [SV.den, e1, cellV, addv, Instr.storeAt, Instr.sureAddr, storeVar, Sem.run_bind, Sem.run_pure, Result.andThen_ok, hsz, Sem.run_ite, hlen, ne_eq, not_true, if_false]
      rw [← hcs]; exact hrun
    · exact (T.reach_fail hr).elim
  · exact (T.reach_fail hr).elim

theorem lenOf_slice {w : World} {a : Option Addr} {n c : Nat} : (Builtin.lenOf (.slice a n c)).run P w = .ok n w := rfl

theorem copy_sound (hc : CxOk P Γ.G cx) {ρ : Env} {S : St} {a : Act} {w : World} (h : Rel Γ ρ S a w) {t : TypeId} {x y : SV} {e : Eff} (hr : T.Reach (copyE cx S t x y) e) (ts : Array TypeId) (ht : ts[0]? = some t) (xs : Array Value)
    (h0 : xs[0]? = some (x.den ρ)) (h1 : xs[1]? = some (y.den ρ)) (T' : TypeId) :
    ∃ w' n, (Builtin.copy_ ts T' xs).run P w = .ok (.int .i64 n) w' ∧ Rel Γ ρ { S with mem := memE S.mem e.w } a w' ∧ e.v = .lit .i64 n := by
  unfold copyE at hr
  split at hr
  · rename_i ti b o z len cap b' o' z' len' cap' hti
    split at hr
    · rename_i el n' m' hd
      split at hr
      · rename_i te blk blk' hte hblk hblk'
        split at hr
        · rename_i hown
          rw [T.reach_bind] at hr
          obtain ⟨v, hv, hr⟩ := hr
          rw [T.reach_bind] at hr
          obtain ⟨vs, hvs, hr⟩ := hr
          rw [T.reach_bind] at hr
          obtain ⟨blk2, hb2, hr⟩ := hr
          split at hr
          · rename_i hw
            have hw := Nat.eq_of_beq_eq_true hw
            rw [T.reach_ret] at hr; subst hr
            obtain ⟨hok', hids'⟩ := h.mem b' blk' hblk'
            obtain ⟨hwf, hg1, hg2⟩ := got_blk (ρ := ρ) (fun e => by cases e) hok'.atoms hv
            have hva := atomsOf_atoms hwf hvs
            have hvi := atomsOf_ids (readBlk_ids hids' hv) hvs
            obtain ⟨w', hrun, hrel⟩ := write_sound (P := P) h hblk hown hva hvi hw hb2
            refine ⟨w', _, ?_, hrel, rfl⟩
            have hu : (underlying t).run P w = .ok (.slice el) w := by rw [run_und (hc.tab _ _ hti), hd]
            have hs : (Go.sizeOf el).run P w = .ok te.sz w := run_size (hc.tab _ _ hte)
            have hcs := atomsOf_cells (ρ := ρ) hvs
            rw [hg1] at hcs
            simp only [Value.cells] at hcs
            have hl := run_loadCells P (ρ.blk b') (ρ.off b' + (o' + z'.den ρ)) w (n := Nat.min m' n' * te.sz) (cs := cellsL ρ vs) (by rw [cellsL_length hva, hw]) (fun j v hj => by
              rw [hcs, List.getElem?_take] at hj
              split at hj
              · rw [List.getElem?_drop] at hj
                have := hok'.cell _ _ hj
                rw [show ρ.off b' + (o' + z'.den ρ) + j = ρ.off b' + (o' + z'.den ρ + j) from by omega]; exact this
              · cases hj)
            simp only [Builtin.copy_, ht, h0, h1, Sem.run_bind, hu, Result.andThen_ok, SV.den, lenOf_slice, SN.den_lit, hs, Builtin.firstCells, hl, hrun, Sem.run_pure, goInt]
          · exact (T.reach_fail hr).elim
        · exact (T.reach_fail hr).elim
      · exact (T.reach_fail hr).elim
    · exact (T.reach_fail hr).elim
  · exact (T.reach_fail hr).elim

theorem copyV_sound (hc : CxOk P Γ.G cx) {ρ : Env} {S : St} {a : Act} {w : World} (h : Rel Γ ρ S a w) {t : TypeId} {x : SV} {i : Nat} {e : Eff} (hr : T.Reach (copyV cx S t x i) e) (ts : Array TypeId) (ht : ts[0]? = some t) (xs : Array Value)
    (h0 : xs[0]? = some (x.den ρ)) (h1 : xs[1]? = some ((SV.sl i).den ρ)) (T' : TypeId) :
    ∃ w' n, (Builtin.copy_ ts T' xs).run P w = .ok (.int .i64 n) w' ∧ Rel Γ ρ { S with mem := memE S.mem e.w } a w' ∧ e.v = .lit .i64 n := by
  unfold copyV at hr
  split at hr
  · rename_i ti b o z n' cap V hti hV
    split at hr
    · rename_i el hd
      split at hr
      · rename_i te blk hte hblk
        split at hr
        · rename_i hown hpos
          have hpos : 0 < Nat.min V.n n' * te.sz := Nat.le_of_ble_eq_true hpos
          rw [T.reach_bind] at hr
          obtain ⟨v, hv, hr⟩ := hr
          rw [T.reach_bind] at hr
          obtain ⟨vs, hvs, hr⟩ := hr
          rw [T.reach_bind] at hr
          obtain ⟨blk2, hb2, hr⟩ := hr
          split at hr
          · rename_i hw
            have hw := Nat.eq_of_beq_eq_true hw
            rw [T.reach_ret] at hr; subst hr
            obtain ⟨a1, a2, g, p, ⟨m, cc, e1, -⟩, cs, c1, c2, -, c3⟩ := readV_sound h hV hpos (fun e => by cases e) hv
            obtain ⟨ao, c0, f1, -, -⟩ := h.vec_at hV
            have hm : m = V.n := by rw [f1] at e1; cases e1; rfl
            subst hm
            have hva := atomsOf_atoms a1 hvs
            have hvi := atomsOf_ids (a2 S.has) hvs
            obtain ⟨w', hrun, hrel⟩ := write_sound (P := P) h hblk hown hva hvi hw hb2
            refine ⟨w', _, ?_, hrel, rfl⟩
            have hu : (underlying t).run P w = .ok (.slice el) w := by rw [run_und (hc.tab _ _ hti), hd]
            have hs : (Go.sizeOf el).run P w = .ok te.sz w := run_size (hc.tab _ _ hte)
            have hcs := atomsOf_cells (ρ := ρ) hvs
            rw [c2] at hcs
            simp only [Value.cells] at hcs
            have hl := run_loadCells P g p w (n := Nat.min V.n n' * te.sz) (cs := cellsL ρ vs) (by rw [cellsL_length hva, hw]) (fun j v hj => by
              rw [hcs] at hj
              have := c3 j v hj
              rw [Nat.add_zero] at this; exact this)
            simp only [Builtin.copy_, ht, h0, h1, Sem.run_bind, hu, Result.andThen_ok, SV.den, e1, sliceV, lenOf_slice, SN.den_lit, hs, Builtin.firstCells, hl, hrun, Sem.run_pure, goInt]
          · exact (T.reach_fail hr).elim
        · exact (T.reach_fail hr).elim
      · exact (T.reach_fail hr).elim
    · exact (T.reach_fail hr).elim
  · exact (T.reach_fail hr).elim

theorem Rel.G {ρ : Env} {S : St} {a : Act} {w : World} (h : Rel Γ ρ S a w) (hc : CxOk P Γ.G cx) (h0 : Γ.G Γ.w0) : Γ.G w := hc.keep _ _ h.below h0

theorem effS_sound (hc : CxOk P Γ.G cx) (hg : GlobOk Γ) (h0 : Γ.G Γ.w0) {ρ : Env} {S : St} {a : Act} {w : World} (h : Rel Γ ρ S a w) {o : Oper} {e : Eff} (hr : T.Reach (effS cx S o) e) {n' : Nat} (hn : Γ.n0 ≤ n') {K : Act → World → Prop} {Q : Exit → Act → World → Prop}
    (hK : ∀ ρ' a' w', Rel Γ ρ' { e.on S o.dst with next := n' } a' w' → K a' w') : o.wp P a w K Q := by
  have hev := h.eval_eq hg
  unfold effS at hr
  split at hr
  · rename_i t ht
    rw [T.reach_bind] at hr
    obtain ⟨v, hv, hr⟩ := hr
    rw [T.reach_ret] at hr; subst hr
    obtain ⟨h1, h2, h3⟩ := pureS_spec hc (fun x => h.ev_wf x) ht hv
    refine value_wp (v := v.den ρ) (w' := w) ?_ (hK ρ _ _ ((h.put o.dst h1 (h2 _ (fun x _ => h.ev_ids x))).next hn))
    rw [hev]; exact h3 ρ w
  · split at hr
    · -- alloc
      rename_i t hop
      split at hr
      · rename_i ti hti
        have ok := hc.tab _ _ hti
        rw [T.reach_bind] at hr
        obtain ⟨ps, hps, hr⟩ := hr
        obtain ⟨ρ', hrel⟩ := h.newRow hr (atomsOf_atoms ok.wf hps) (atomsOf_ids (ok.ids _) hps) t o.dst hn
        refine value_wp (v := .pointer (some ⟨w.heap.size, 0, none⟩)) (w' := { w with heap := w.heap.push (.cells (cellsL ρ ps).toArray t) }) ?_ (hK ρ' _ _ hrel)
        have hcs := atomsOf_cells (ρ := ρ) hps
        have : (ti.z.den ρ).cells = (cellsL ρ ps).toArray := by rw [hcs]
        simp only [execOp, hop, Instr.alloc, Sem.run_bind, run_zero ok ρ, Result.andThen_ok, newVar, newRow, run_newObj, Sem.run_pure, this]
      · exact (T.reach_fail hr).elim
    · -- box
      rename_i t x hop
      rw [T.reach_bind] at hr
      obtain ⟨ps, hps, hr⟩ := hr
      obtain ⟨ρ', hrel⟩ := h.newRow hr (atomsOf_atoms (h.ev_wf x) hps) (atomsOf_ids (h.ev_ids x) hps) t o.dst hn
      refine value_wp (v := .pointer (some ⟨w.heap.size, 0, none⟩)) (w' := { w with heap := w.heap.push (.cells (cellsL ρ ps).toArray t) }) ?_ (hK ρ' _ _ hrel)
      have hcs := atomsOf_cells (ρ := ρ) hps
      have : ((evS S x).den ρ).cells = (cellsL ρ ps).toArray := by rw [hcs]
      simp only [execOp, hop, hev, Instr.box, Sem.run_bind, Result.andThen_ok, newVar, newRow, run_newObj, Sem.run_pure, this]
    · -- load
      rename_i t x hop
      rw [T.reach_bind] at hr
      obtain ⟨v, hv, hr⟩ := hr
      rw [T.reach_ret] at hr; subst hr
      obtain ⟨h1, h2, h3⟩ := load_sound hc h hv
      refine value_wp (v := v.den ρ) (w' := w) ?_ (hK ρ _ _ ((h.put o.dst h1 h2).next hn))
      simp only [execOp, hop, hev, Sem.run_bind, h3, Result.andThen_ok, Sem.run_pure]
    · -- store
      rename_i t x v hop
      obtain ⟨w', hrun, hrel, hv⟩ := store_sound hc h (h.ev_wf v) (h.ev_ids v) hr
      have := hrel.put o.dst (v := .raw undef) (by simp only [wf]) (by simp only [SV.ids])
      refine skip_wp (w' := w') ?_ (hK ρ _ _ ?_)
      · simp only [execOp, hop, hev, Sem.run_bind, hrun, Result.andThen_ok, Sem.run_pure]
      · have h2 := this.next hn
        simp only [SV.den] at h2
        unfold Eff.on
        rw [hv]; exact h2
    · -- call
      rename_i c hop
      split at hr
      · rename_i f hcal
        split at hr
        · rename_i g caps hf
          split at hr
          · rename_i spec hspec
            rw [T.reach_bind] at hr
            obtain ⟨v, hv, hr⟩ := hr
            rw [T.reach_ret] at hr; subst hr
            obtain ⟨s1, s2, s3⟩ := hc.fn g spec hspec
            have hargs : ∀ x ∈ c.args.toList.map (evS S) ++ caps, wf x := fun x hx => by
              rw [List.mem_append] at hx
              rcases hx with hx | hx
              · simp at hx; obtain ⟨y, -, rfl⟩ := hx; exact h.ev_wf _
              · have := h.ev_wf f; rw [hf] at this; simp only [wf] at this; exact wfL_iff.1 this x hx
            have hids : ∀ x ∈ c.args.toList.map (evS S) ++ caps, x.ids S.has := fun x hx => by
              rw [List.mem_append] at hx
              rcases hx with hx | hx
              · simp at hx; obtain ⟨y, -, rfl⟩ := hx; exact h.ev_ids _
              · have := h.ev_ids f; rw [hf] at this; simp only [SV.ids] at this; exact idsL_iff.1 this x hx
            have e : (denL ρ (c.args.toList.map (evS S) ++ caps)).toArray = (c.args.map fun x => (evS S x).den ρ) ++ (denL ρ caps).toArray := by
              apply Array.ext'; simp [denL_eq]
            refine callFn_wp (g := g) (args := (denL ρ (c.args.toList.map (evS S) ++ caps)).toArray) (w' := w) ?_ ((s3 _ _ hargs hv ρ w (h.G hc h0)).mono fun e' w' ⟨he, hb⟩ => ⟨v.den ρ, he, hK ρ _ _ (((h.onto hb).put o.dst (s1.wf _ _ hargs hv) (s1.ids _ _ hv _ hids)).next hn)⟩)
            rw [e]
            have hv' : evS S f = .fn g caps := hf
            simp only [execOp, hop, hev, resolve, hcal, hv', SV.den, Deferred.ofValue, Sem.run_bind, Sem.run_pure, Result.andThen_ok, invoke, Array.empty_append]
            exact s2 _ w
          · split at hr
            · rename_i spec hspec
              split at hr
              · rename_i hl hlt
                have hlt : S.next < 1000000 := Nat.le_of_ble_eq_true hlt
                rw [T.reach_bind] at hr
                obtain ⟨⟨v, ob⟩, hv, hr⟩ := hr
                rw [T.reach_ret] at hr; subst hr
                obtain ⟨s2, s3⟩ := hc.fnm Γ rfl h0 hg g spec hspec
                have hargs : ∀ x ∈ c.args.toList.map (evS S) ++ caps, wf x := fun x hx => by
                  rw [List.mem_append] at hx
                  rcases hx with hx | hx
                  · simp at hx; obtain ⟨y, -, rfl⟩ := hx; exact h.ev_wf _
                  · have := h.ev_wf f; rw [hf] at this; simp only [wf] at this; exact wfL_iff.1 this x hx
                have hids : idsL S.has (c.args.toList.map (evS S) ++ caps) := idsL_iff.2 fun x hx => by
                  rw [List.mem_append] at hx
                  rcases hx with hx | hx
                  · simp at hx; obtain ⟨y, -, rfl⟩ := hx; exact h.ev_ids _
                  · have := h.ev_ids f; rw [hf] at this; simp only [SV.ids] at this; exact idsL_iff.1 this x hx
                have e : (denL ρ (c.args.toList.map (evS S) ++ caps)).toArray = (c.args.map fun x => (evS S x).den ρ) ++ (denL ρ caps).toArray := by
                  apply Array.ext'; simp [denL_eq]
                refine callFn_wp (g := g) (args := (denL ρ (c.args.toList.map (evS S) ++ caps)).toArray) (w' := w) ?_ ((s3 _ v ob ρ S a w h hargs hids hl hlt hv).mono fun e' w' ⟨u, he, hb⟩ => ⟨u, he, ?_⟩)
                · rw [e]
                  have hv' : evS S f = .fn g caps := hf
                  simp only [execOp, hop, hev, resolve, hcal, hv', SV.den, Deferred.ofValue, Sem.run_bind, Sem.run_pure, Result.andThen_ok, invoke, Array.empty_append]
                  exact s2 _ w
                · obtain ⟨ρ', hrel⟩ := hb o.dst n' hn
                  exact hK ρ' _ _ hrel
              · exact (T.reach_fail hr).elim
            · exact (T.reach_fail hr).elim
        · exact (T.reach_fail hr).elim
      · rename_i hcal
        split at hr
        · rename_i t x y ht hx hy
          split at hr
          · rename_i j hj
            obtain ⟨w', n, hrun, hrel, hv⟩ := copyV_sound hc h hr c.argTypes ht (c.args.map fun x => (evS S x).den ρ) (by simp [hx]) (by simp [hy, hj]) o.type
            have := hrel.put o.dst (v := .lit .i64 n) (by simp only [wf]) (by simp only [SV.ids])
            refine value_wp (v := .int .i64 n) (w' := w') ?_ (hK ρ _ _ ?_)
            · simp only [execOp, hop, hev, resolve, hcal, Sem.run_bind, Sem.run_pure, Result.andThen_ok, invoke, builtin, hrun]
            · have h2 := this.next hn
              simp only [SV.den] at h2
              unfold Eff.on
              rw [hv]; exact h2
          obtain ⟨w', n, hrun, hrel, hv⟩ := copy_sound hc h hr c.argTypes ht (c.args.map fun x => (evS S x).den ρ) (by simp [hx]) (by simp [hy]) o.type
          have := hrel.put o.dst (v := .lit .i64 n) (by simp only [wf]) (by simp only [SV.ids])
          refine value_wp (v := .int .i64 n) (w' := w') ?_ (hK ρ _ _ ?_)
          · simp only [execOp, hop, hev, resolve, hcal, Sem.run_bind, Sem.run_pure, Result.andThen_ok, invoke, builtin, hrun]
          · have h2 := this.next hn
            simp only [SV.den] at h2
            unfold Eff.on
            rw [hv]; exact h2
        · exact (T.reach_fail hr).elim
      · -- len
        rename_i hcal
        split at hr
        · rename_i t x ht hx
          split at hr
          · rename_i j hj
            obtain ⟨v, rfl, v1, v2, hrun⟩ := lenV_sound hc h hr c.argTypes (c.args.map fun x => (evS S x).den ρ) ht o.type (by simp [hx, hj])
            refine value_wp (v := v.den ρ) (w' := w) ?_ (hK ρ _ _ ((h.put o.dst v1 v2).next hn))
            simp only [execOp, hop, hev, resolve, hcal, Sem.run_bind, Sem.run_pure, Result.andThen_ok, invoke, builtin, hrun]
          · exact (T.reach_fail hr).elim
        · exact (T.reach_fail hr).elim
      · -- append
        rename_i hcal
        split at hr
        · rename_i t t' x y ht hx
          split at hr
          · rename_i htt
            have htt := Nat.eq_of_beq_eq_true htt
            subst htt
            obtain ⟨v', w', ρ', hrun, hrel⟩ := app_sound (ty := o.type) hc h hr o.dst hn
            refine value_wp (v := v') (w' := w') ?_ (hK ρ' _ _ hrel)
            have e1 : c.argTypes = #[t, t] := by apply Array.ext'; simpa using ht
            have e2 : (c.args.map fun x => (evS S x).den ρ) = #[(evS S x).den ρ, (evS S y).den ρ] := by apply Array.ext'; simp [hx]
            simp only [execOp, hop, hev, resolve, hcal, Sem.run_bind, Sem.run_pure, Result.andThen_ok, invoke, builtin, e1, e2, hrun]
          · exact (T.reach_fail hr).elim
        · exact (T.reach_fail hr).elim
      · exact (T.reach_fail hr).elim
    · -- a place
      rename_i t x i hop
      split at hr
      · rename_i j hj
        obtain ⟨v, rfl, v1, v2, hrun⟩ := idxV_sound hc h hr
        refine value_wp (v := v.den ρ) (w' := w) ?_ (hK ρ _ _ ((h.put o.dst v1 v2).next hn))
        simp only [execOp, hop, hev, hj, Sem.run_bind, hrun, Result.andThen_ok, Sem.run_pure]
      · exact (T.reach_fail hr).elim
    · -- a slice of a slice
      rename_i t x lo hi mx hop
      split at hr
      · rename_i j hj
        obtain ⟨v', ρ', hrun, hrel⟩ := sli_sound hc h hr o.dst hn
        refine value_wp (v := v') (w' := w) ?_ (hK ρ' _ _ hrel)
        simp only [Option.map_map] at hrun
        simp only [execOp, hop, hev, hj, Sem.run_bind, Sem.run_pure]
        rw [show (Option.map (fun x => (evS S x).den ρ) lo) = Option.map (SV.den ρ ∘ evS S) lo from rfl, show (Option.map (fun x => (evS S x).den ρ) hi) = Option.map (SV.den ρ ∘ evS S) hi from rfl, show (Option.map (fun x => (evS S x).den ρ) mx) = Option.map (SV.den ρ ∘ evS S) mx from rfl, hrun]
        rfl
      · exact (T.reach_fail hr).elim
    · -- nil or not
      rename_i op t x y yt hop
      split at hr
      · rename_i i hx hy
        have e1 : ∀ op', (eqGuard op' t x y ((SV.sl i).den ρ) (.slice none 0 0)).run P w = .ok () w := fun op' =>
          run_eqGuard_agg (by simp only [SV.den]; unfold sliceV; split <;> simp) (fun cs he => by
            simp only [SV.den] at he; unfold sliceV at he; split at he <;> cases he)
        split at hr
        · obtain ⟨v, rfl, v1, v2, hrun⟩ := nilE_sound hc h hr
          refine value_wp (v := v.den ρ) (w' := w) ?_ (hK ρ _ _ ((h.put o.dst v1 (v2 _)).next hn))
          simp only [cond] at hrun
          have hy' : (SV.raw (.slice none 0 0)).den ρ = .slice none 0 0 := by simp only [SV.den]
          simp only [execOp, hop, hev, hx, hy, hy', Sem.run_bind, e1, hrun, Result.andThen_ok, Sem.run_pure]
        · obtain ⟨v, rfl, v1, v2, hrun⟩ := nilE_sound hc h hr
          refine value_wp (v := v.den ρ) (w' := w) ?_ (hK ρ _ _ ((h.put o.dst v1 (v2 _)).next hn))
          simp only [cond] at hrun
          have hy' : (SV.raw (.slice none 0 0)).den ρ = .slice none 0 0 := by simp only [SV.den]
          simp only [execOp, hop, hev, hx, hy, hy', Sem.run_bind, e1, hrun, Result.andThen_ok, Sem.run_pure]
        · exact (T.reach_fail hr).elim
      · rename_i xs ys hx hy
        have e1 : ∀ op', (eqGuard op' t x y (strV xs) (strV ys)).run P w = .ok () w := fun op' =>
          run_eqGuard_agg (by simp [strV]) (fun cs he => by simp [strV] at he)
        have hx' : (evS S x).den ρ = strV xs := by rw [hx]; simp only [SV.den]
        have hy' : (evS S y).den ρ = strV ys := by rw [hy]; simp only [SV.den]
        split at hr
        · obtain ⟨v, rfl, v1, v2, hrun⟩ := strsE_sound hc (ρ := ρ) (w := w) hr
          refine value_wp (v := v.den ρ) (w' := w) ?_ (hK ρ _ _ ((h.put o.dst v1 (v2 _)).next hn))
          simp only [cond] at hrun
          simp only [execOp, hop, hev, hx', hy', Sem.run_bind, e1, hrun, Result.andThen_ok, Sem.run_pure]
        · obtain ⟨v, rfl, v1, v2, hrun⟩ := strsE_sound hc (ρ := ρ) (w := w) hr
          refine value_wp (v := v.den ρ) (w' := w) ?_ (hK ρ _ _ ((h.put o.dst v1 (v2 _)).next hn))
          simp only [cond] at hrun
          simp only [execOp, hop, hev, hx', hy', Sem.run_bind, e1, hrun, Result.andThen_ok, Sem.run_pure]
        · exact (T.reach_fail hr).elim
      · exact (T.reach_fail hr).elim
    · -- a string
      rename_i src dst x hop
      split at hr
      · rename_i j hj
        split at hr
        · obtain ⟨v, rfl, v1, v2, hrun⟩ := strE_sound hc h hr
          refine value_wp (v := v.den ρ) (w' := w) ?_ (hK ρ _ _ ((h.put o.dst v1 (v2 _)).next hn))
          simp only [execOp, hop, hev, hj, Sem.run_bind, hrun, Result.andThen_ok, Sem.run_pure]
        · obtain ⟨w', hv, hhas, hrun, hrel⟩ := mark_sound hc h hr
          have hput := hrel.put o.dst (v := .sl j) (by simp only [wf]) (by simp only [SV.ids]; exact hhas)
          refine value_wp (v := (SV.sl j).den ρ) (w' := w') ?_ (hK ρ _ _ ?_)
          · simp only [execOp, hop, hev, hj, Sem.run_bind, hrun, Result.andThen_ok, Sem.run_pure]
          · have h2 := hput.next hn
            unfold Eff.on
            rw [hv]; exact h2
      · exact (T.reach_fail hr).elim
    · -- make
      rename_i t l c hop
      obtain ⟨v', w', ρ', hrun, hrel⟩ := make_sound hc h hr o.dst hn
      refine value_wp (v := v') (w' := w') ?_ (hK ρ' _ _ hrel)
      simp only [execOp, hop, hev, Sem.run_bind, hrun, Result.andThen_ok, Sem.run_pure]
    · -- a map
      rename_i t r hop
      split at hr
      · rename_i hrn
        obtain ⟨v', w', ρ', hrun, hrel⟩ := mkMap_sound hc h hr o.dst hn
        refine value_wp (v := v') (w' := w') ?_ (hK ρ' _ _ hrel)
        simp only [execOp, hop, hev, Option.map_none, Sem.run_bind, hrun, Result.andThen_ok, Sem.run_pure]
      · exact (T.reach_fail hr).elim
    · rename_i t m x ok hop
      split at hr
      · rename_i i hi
        obtain ⟨v, rfl, v1, v2, hrun⟩ := lookup_sound hc h (h.ev_wf x) hr
        refine value_wp (v := v.den ρ) (w' := w) ?_ (hK ρ _ _ ((h.put o.dst v1 (v2 _)).next hn))
        simp only [execOp, hop, hev, hi, Sem.run_bind, hrun, Result.andThen_ok, Sem.run_pure]
      · exact (T.reach_fail hr).elim
    · rename_i t m x hop
      split at hr
      · rename_i i hi
        obtain ⟨w', v1, v2, hrun, hrel⟩ := entry_sound hc h (h.ev_wf x) hr
        refine value_wp (v := e.v.den ρ) (w' := w') ?_ (hK ρ _ _ ((hrel.put o.dst v1 (v2 _)).next hn))
        simp only [execOp, hop, hev, hi, Sem.run_bind, hrun, Result.andThen_ok, Sem.run_pure]
      · exact (T.reach_fail hr).elim
    · rename_i t m s x hop
      split at hr
      · rename_i i hi
        obtain ⟨w', hv, hrun, hrel⟩ := estore_sound (P := P) (t := t) h hr
        have := hrel.put o.dst (v := .raw undef) (by simp only [wf]) (by simp only [SV.ids])
        refine skip_wp (w' := w') ?_ (hK ρ _ _ ?_)
        · simp only [execOp, hop, hev, hi, Sem.run_bind, hrun, Result.andThen_ok, Sem.run_pure]
        · have h2 := this.next hn
          simp only [SV.den] at h2
          unfold Eff.on
          rw [hv]; exact h2
      · exact (T.reach_fail hr).elim
    · rename_i t m x v hop
      split at hr
      · rename_i i hi
        obtain ⟨w', hv, hrun, hrel⟩ := mapUpd_sound hc h (h.ev_wf x) hr
        have := hrel.put o.dst (v := .raw undef) (by simp only [wf]) (by simp only [SV.ids])
        refine skip_wp (w' := w') ?_ (hK ρ _ _ ?_)
        · simp only [execOp, hop, hev, hi, Sem.run_bind, hrun, Result.andThen_ok, Sem.run_pure]
        · have h2 := this.next hn
          simp only [SV.den] at h2
          unfold Eff.on
          rw [hv]; exact h2
      · exact (T.reach_fail hr).elim
    · -- a slice's literal
      rename_i t len parts hop
      obtain ⟨v', w', ρ', hrun, hrel⟩ := bld_sound hc h (fun x hx => by simp at hx; obtain ⟨a, b, -, rfl⟩ := hx; exact h.ev_wf _) hr o.dst hn
      refine value_wp (v := v') (w' := w') ?_ (hK ρ' _ _ hrel)
      have := map_build (evS S) ρ parts
      simp only [execOp, hop, hev, this, Sem.run_bind, hrun, Result.andThen_ok, Sem.run_pure]
    · exact (T.reach_fail hr).elim

/-- **A step of the symbolic state is the operation's.** -/
theorem stepS_sound (hc : CxOk P Γ.G cx) (hg : GlobOk Γ) (h0 : Γ.G Γ.w0) {ρ : Env} {S S' : St} {a : Act} {w : World} (h : Rel Γ ρ S a w) {o : Oper} (hr : T.Reach (stepS cx S o) S') {K : Act → World → Prop} {Q : Exit → Act → World → Prop}
    (hK : ∀ ρ' a' w', Rel Γ ρ' S' a' w' → K a' w') : o.wp P a w K Q := by
  unfold stepS at hr
  rw [T.reach_bind] at hr
  obtain ⟨e, he, hr⟩ := hr
  rw [T.reach_ret] at hr; subst hr
  exact effS_sound hc hg h0 h he (Nat.le_trans h.nx (Nat.le_succ _)) hK
end
end Go.Sx

/- The symbolic layer, part K: regions, code, functions. -/
namespace Go.Sx
open Go.RowKit (Below)

/-! ### Values that read the same, states that are alike -/
structure VEq (v v' : SV) : Prop where
  den : ∀ ρ, v.den ρ = v'.den ρ
  wf : wf v ↔ wf v'
  ids : ∀ p, v.ids p ↔ v'.ids p

theorem VEq.refl (v : SV) : VEq v v := ⟨fun _ => rfl, Iff.rfl, fun _ => Iff.rfl⟩
theorem VEq.symm {v v' : SV} (h : VEq v v') : VEq v' v := ⟨fun ρ => (h.den ρ).symm, h.wf.symm, fun p => (h.ids p).symm⟩
theorem VEq.trans {v v' v'' : SV} (h : VEq v v') (k : VEq v' v'') : VEq v v'' := ⟨fun ρ => (h.den ρ).trans (k.den ρ), h.wf.trans k.wf, fun p => (h.ids p).trans (k.ids p)⟩
theorem VEq.tt {b : Bool} (h : b = true) : VEq .tt (.bool b) := by subst h; exact ⟨fun ρ => by simp [SV.den], by simp only [Sx.wf], fun p => by simp [SV.ids]⟩
theorem VEq.ff {b : Bool} (h : b = false) : VEq .ff (.bool b) := by subst h; exact ⟨fun ρ => by simp [SV.den], by simp only [Sx.wf], fun p => by simp [SV.ids]⟩

structure Alike (S S' : St) : Prop where
  len : S.tmps.length = S'.tmps.length
  tmps : ∀ t, VEq (getS S.tmps t) (getS S'.tmps t)
  mem : ∀ i, look S.mem i = look S'.mem i
  next : S.next = S'.next

theorem Alike.rel {Γ : Gam} {ρ : Env} {S S' : St} {a : Act} {w : World} (hs : Alike S S') (h : Rel Γ ρ S a w) : Rel Γ ρ S' a w := by
  have hhas : S'.has = S.has := by funext i; simp [St.has, hs.mem i]
  have hd : denL ρ S.tmps = denL ρ S'.tmps := by
    rw [denL_eq, denL_eq]
    apply List.ext_getElem
    · simp [hs.len]
    · intro i h1 h2
      have h1 : i < S.tmps.length := by simpa using h1
      have h2 : i < S'.tmps.length := by simpa using h2
      have := (hs.tmps i).den ρ
      rw [getS_eq, getS_eq] at this
      simpa [List.getD, h1, h2] using this
  refine ⟨by rw [← hd]; exact h.tm, h.df.map (Nat.le_refl _) fun D _ hD => ⟨hD.1, fun i b hl => hD.2 i b (by rw [hs.mem]; exact hl)⟩, fun i b hl => ?_, fun i j b c hi hj => h.dj i j b c (by rw [hs.mem]; exact hi) (by rw [hs.mem]; exact hj), h.below, h.pin, by rw [← hs.next]; exact h.nx, fun v hv => ?_, idsL_iff.2 fun v hv => ?_⟩
  · rw [hhas]
    exact h.mem i b (by rw [hs.mem]; exact hl)
  · obtain ⟨i, hi, rfl⟩ := List.getElem_of_mem hv
    have hi' : i < S.tmps.length := by rw [hs.len]; exact hi
    have := (hs.tmps i).wf
    rw [getS_eq, getS_eq] at this
    simp only [List.getD, hi, hi', List.getElem?_eq_getElem, Option.getD_some] at this
    exact this.1 (h.wfT _ (List.getElem_mem hi'))
  · obtain ⟨i, hi, rfl⟩ := List.getElem_of_mem hv
    have hi' : i < S.tmps.length := by rw [hs.len]; exact hi
    have := (hs.tmps i).ids S.has
    rw [getS_eq, getS_eq] at this
    simp only [List.getD, hi, hi', List.getElem?_eq_getElem, Option.getD_some] at this
    rw [hhas]
    exact this.1 (idsL_iff.1 h.idT _ (List.getElem_mem hi'))

theorem Alike.refl (S : St) : Alike S S := ⟨rfl, fun _ => VEq.refl _, fun _ => rfl, rfl⟩
theorem Alike.symm {S S' : St} (h : Alike S S') : Alike S' S := ⟨h.len.symm, fun t => (h.tmps t).symm, fun i => (h.mem i).symm, h.next.symm⟩
theorem Alike.trans {S S' S'' : St} (h : Alike S S') (k : Alike S' S'') : Alike S S'' := ⟨h.len.trans k.len, fun t => (h.tmps t).trans (k.tmps t), fun i => (h.mem i).trans (k.mem i), h.next.trans k.next⟩

theorem getS_set (l : List SV) (d : Nat) (v : SV) (t : Nat) : getS (l.set d v) t = if d = t ∧ d < l.length then v else getS l t := by
  rw [getS_eq, getS_eq]
  simp only [List.getD, List.getElem?_set]
  by_cases h : d = t
  · subst h
    by_cases h2 : d < l.length
    · simp [h2]
    · simp [h2]
  · simp [h]

theorem Alike.set {S S' : St} (h : Alike S S') (d : Nat) {v v' : SV} (hv : VEq v v') : Alike { S with tmps := setS S.tmps d v } { S' with tmps := setS S'.tmps d v' } := by
  refine ⟨by simp [setS_eq, h.len], fun t => ?_, h.mem, h.next⟩
  simp only [setS_eq, getS_set, h.len]
  split
  · exact hv
  · exact h.tmps t

/-- A slot that holds what reads the same. -/
theorem Alike.slot {S : St} (d : Nat) {v : SV} (hv : VEq v (getS S.tmps d)) : Alike { S with tmps := setS S.tmps d v } S := by
  refine ⟨by simp [setS_eq], fun t => ?_, fun _ => rfl, rfl⟩
  simp only [setS_eq, getS_set]
  split
  · rename_i hd; rw [← hd.1]; exact hv
  · exact VEq.refl _

/-- A guard that is decided is put down as decided. -/
def refS (ops : Array Oper) (S : St) (o : Oper) : T St :=
  match o.guard with
  | none => .ret S
  | some (j, _) => match (ops[j]?).bind (·.dst) with
    | none => .ret S
    | some t => match getS S.tmps t with
      | .bool b => .ite b (.ret { S with tmps := setS S.tmps t .tt }) (.ret { S with tmps := setS S.tmps t .ff })
      | _ => .ret S

theorem refS_alike {ops : Array Oper} {S S1 : St} {o : Oper} (h : T.Reach (refS ops S o) S1) : Alike S1 S := by
  unfold refS at h
  split at h
  · rw [T.reach_ret] at h; subst h; exact Alike.refl _
  · split at h
    · rw [T.reach_ret] at h; subst h; exact Alike.refl _
    · split at h
      · rename_i b hb
        rw [T.reach_ite] at h
        rcases h with ⟨hb', h⟩ | ⟨hb', h⟩
        · rw [T.reach_ret] at h; subst h; exact Alike.slot _ (by rw [hb]; exact VEq.tt hb')
        · rw [T.reach_ret] at h; subst h; exact Alike.slot _ (by rw [hb]; exact VEq.ff hb')
      · rw [T.reach_ret] at h; subst h; exact Alike.refl _

/-- A call that is walked into. -/
def callS (cx : Cx) (S : St) (o : Oper) : Option (T St) :=
  match o.op with
  | .call c => match c.callee with
    | .value f => match evS S f with
      | .fn g caps => match cx.inl g with
        | some h => some ((h (c.args.toList.map (evS S) ++ caps) S).bind fun r => .ret { r.2.put o.dst r.1 with next := r.2.next + 1 })
        | none => none
      | _ => none
    | _ => none
  | _ => none

def stepK (cx : Cx) (S : St) (o : Oper) : T St :=
  match callS cx S o with
  | some t => t
  | none => stepS cx S o

theorem stepK_sound {P : Program} {Γ : Gam} {cx : Cx} (hc : CxOk P Γ.G cx) (hg : GlobOk Γ) (h0 : Γ.G Γ.w0) {ρ : Env} {S S' : St} {a : Act} {w : World} (h : Rel Γ ρ S a w) {o : Oper} (hr : T.Reach (stepK cx S o) S') {K : Act → World → Prop} {Q : Exit → Act → World → Prop}
    (hK : ∀ ρ' a' w', Rel Γ ρ' S' a' w' → K a' w') : o.wp P a w K Q := by
  unfold stepK at hr
  split at hr
  · rename_i t ht
    unfold callS at ht
    split at ht
    · rename_i c hop
      split at ht
      · rename_i f hcal
        split at ht
        · rename_i g caps hf
          split at ht
          · rename_i hh hinl
            simp only [Option.some.injEq] at ht
            subst ht
            rw [T.reach_bind] at hr
            obtain ⟨⟨v, S1⟩, h1, h2⟩ := hr
            rw [T.reach_ret] at h2; subst h2
            obtain ⟨s2, s3⟩ := hc.inl Γ rfl h0 hg g hh hinl
            have hev := h.eval_eq hg
            have hargs : ∀ x ∈ c.args.toList.map (evS S) ++ caps, wf x := fun x hx => by
              rw [List.mem_append] at hx
              rcases hx with hx | hx
              · simp at hx; obtain ⟨y, -, rfl⟩ := hx; exact h.ev_wf _
              · have := h.ev_wf f; rw [hf] at this; simp only [wf] at this; exact wfL_iff.1 this x hx
            have hids : idsL S.has (c.args.toList.map (evS S) ++ caps) := idsL_iff.2 fun x hx => by
              rw [List.mem_append] at hx
              rcases hx with hx | hx
              · simp at hx; obtain ⟨y, -, rfl⟩ := hx; exact h.ev_ids _
              · have := h.ev_ids f; rw [hf] at this; simp only [SV.ids] at this; exact idsL_iff.1 this x hx
            have e : (denL ρ (c.args.toList.map (evS S) ++ caps)).toArray = (c.args.map fun x => (evS S x).den ρ) ++ (denL ρ caps).toArray := by
              apply Array.ext'; simp [denL_eq]
            refine callFn_wp (g := g) (args := (denL ρ (c.args.toList.map (evS S) ++ caps)).toArray) (w' := w) ?_ ((s3 _ _ _ _ hargs hids h1 ρ a w h).mono fun e' w' ⟨ρ', he, hrel, hwf, hid⟩ => ⟨v.den ρ', he, hK ρ' _ _ ((hrel.put o.dst hwf hid).next (Nat.le_trans hrel.nx (Nat.le_succ _)))⟩)
            rw [e]
            have hv' : evS S f = .fn g caps := hf
            simp only [execOp, hop, hev, resolve, hcal, hv', SV.den, Deferred.ofValue, Sem.run_bind, Sem.run_pure, Result.andThen_ok, invoke, Array.empty_append]
            exact s2 _ w
          · cases ht
        · cases ht
      · cases ht
    · cases ht
  · exact stepS_sound hc hg h0 h hr hK

/-- An operation under its guard. -/
def opS (cx : Cx) (ops : Array Oper) (S : St) (o : Oper) : T St :=
  match o.guard with
  | none => stepK cx S o
  | some (j, want) => match (ops[j]?).bind (·.dst) with
    | none => .ret (S.put o.dst (.raw undef))
    | some t => match getS S.tmps t with
      | .tt => match want with
        | true => stepK cx S o
        | false => .ret (S.put o.dst (.raw undef))
      | .ff => match want with
        | true => .ret (S.put o.dst (.raw undef))
        | false => stepK cx S o
      | .bool b => match want with
        | true => .ite b (stepK cx S o) (.ret (S.put o.dst (.raw undef)))
        | false => .ite b (.ret (S.put o.dst (.raw undef))) (stepK cx S o)
      | .raw (.tuple _) => .ret (S.put o.dst (.raw undef))
      | _ => .fail "a guard that is no truth"

def runOps (cx : Cx) (ops : Array Oper) : List Oper → St → T St
  | [], S => .ret S
  | o :: rest, S => (refS ops S o).bind fun S1 => (opS cx ops S1 o).bind fun S' => runOps cx ops rest S'

section
variable {P : Program} {Γ : Gam} {cx : Cx}

theorem getS_tmps {ρ : Env} {S : St} {a : Act} {w : World} (h : Rel Γ ρ S a w) (t : Nat) (b : Bool) (hb : (getS S.tmps t).den ρ = .bool b) : a.tmps[t]? = some (.bool b) := by
  have := h.tm
  rw [this]
  rw [getS_eq] at hb
  by_cases ht : t < S.tmps.length
  · simp [List.getD, ht] at hb
    simp [denL_eq, ht, hb]
  · simp [List.getD, ht, SV.den, undef] at hb

theorem getS_tmps_none {ρ : Env} {S : St} {a : Act} {w : World} (h : Rel Γ ρ S a w) (t : Nat) {vs : Array Value} (hb : getS S.tmps t = .raw (.tuple vs)) : ∀ b, a.tmps[t]? ≠ some (.bool b) := by
  intro b hh
  rw [h.tm] at hh
  rw [getS_eq] at hb
  by_cases ht : t < S.tmps.length
  · simp only [List.getD, ht, List.getElem?_eq_getElem, Option.getD_some] at hb
    simp [denL_eq, ht, hb, SV.den] at hh
  · simp [denL_eq, ht] at hh

/-- What a guarded operation does: either it is wanted, and a step; or it is passed over. -/
theorem opS_cases {ρ : Env} {ops : Array Oper} {S S' : St} {a : Act} {w : World} (h : Rel Γ ρ S a w) {o : Oper} (hr : T.Reach (opS cx ops S o) S') :
    (Region.wanted o (yielded ops a.tmps) = true ∧ T.Reach (stepK cx S o) S') ∨ (Region.wanted o (yielded ops a.tmps) = false ∧ S' = S.put o.dst (.raw undef)) := by
  unfold opS at hr
  unfold Region.wanted
  split at hr
  · rename_i hg; rw [hg]; exact .inl ⟨rfl, hr⟩
  · rename_i j want hg
    rw [hg]
    simp only [yielded]
    split at hr
    · rename_i hd
      rw [T.reach_ret] at hr
      rw [hd]
      exact .inr ⟨by simp, hr⟩
    · rename_i t hd
      rw [hd]
      simp only [Option.bind_some]
      split at hr
      · rename_i hv
        have := getS_tmps h t true (by rw [hv]; simp [SV.den])
        rw [this]
        split at hr
        · exact .inl ⟨rfl, hr⟩
        · rw [T.reach_ret] at hr; exact .inr ⟨rfl, hr⟩
      · rename_i hv
        have := getS_tmps h t false (by rw [hv]; simp [SV.den])
        rw [this]
        split at hr
        · rw [T.reach_ret] at hr; exact .inr ⟨rfl, hr⟩
        · exact .inl ⟨rfl, hr⟩
      · rename_i b hv
        have := getS_tmps h t b (by rw [hv]; simp [SV.den])
        rw [this]
        split at hr
        · rw [T.reach_ite] at hr
          rcases hr with ⟨rfl, hr⟩ | ⟨rfl, hr⟩
          · exact .inl ⟨rfl, hr⟩
          · rw [T.reach_ret] at hr; exact .inr ⟨rfl, hr⟩
        · rw [T.reach_ite] at hr
          rcases hr with ⟨rfl, hr⟩ | ⟨rfl, hr⟩
          · rw [T.reach_ret] at hr; exact .inr ⟨rfl, hr⟩
          · exact .inl ⟨rfl, hr⟩
      · rename_i vs hv
        rw [T.reach_ret] at hr
        have := getS_tmps_none h t hv
        refine .inr ⟨?_, hr⟩
        split
        · rename_i b hb; exact absurd hb (this b)
        · simp
      · exact (T.reach_fail hr).elim

theorem runOps_sound (hc : CxOk P Γ.G cx) (hg : GlobOk Γ) (h0 : Γ.G Γ.w0) {ops : Array Oper} {Q : Exit → Act → World → Prop} : ∀ (l : List Oper) {ρ : Env} {S S' : St} {a : Act} {w : World}, Rel Γ ρ S a w → T.Reach (runOps cx ops l S) S' →
    (∀ ρ' a' w', Rel Γ ρ' S' a' w' → Q .normal a' w') → wpList P ops Q l a w
  | [], ρ, S, S', a, w, h, hr, hQ => by
    simp only [runOps, T.reach_ret] at hr
    subst hr
    exact hQ ρ a w h
  | o :: rest, ρ, S, S', a, w, h, hr, hQ => by
    simp only [runOps, T.reach_bind] at hr
    obtain ⟨S0, h0', S1, h1, h2⟩ := hr
    have h := (refS_alike h0').symm.rel h
    unfold wpList
    rcases opS_cases h h1 with ⟨hw, hs⟩ | ⟨hw, rfl⟩
    · rw [if_pos hw]
      exact .inl (stepK_sound hc hg h0 h hs fun ρ' a' w' hrel => runOps_sound hc hg h0 rest hrel h2 hQ)
    · rw [if_neg (by rw [hw]; simp)]
      have := h.put o.dst (v := .raw undef) (by simp only [wf]) (by simp only [SV.ids])
      simp only [SV.den] at this
      exact runOps_sound hc hg h0 rest this h2 hQ
end

inductive Ex where
  | normal
  | exit (id : Nat)
  | ret

def Ex.to : Ex → Exit
  | .normal => .normal
  | .exit id => .exit id
  | .ret => .ret

/-- What blocks are given a meaning by a rule of their own (loops with an invariant). -/
abbrev Blocks := Nat → Option (St → T (Ex × St))

def exec (cx : Cx) (draw : Array Oper → St → T St) (bl : Blocks) : Nat → Code → St → T (Ex × St)
  | 0, _, _ => .fail "exec: fuel"
  | n + 1, c, S => match c with
    | .skip => .ret (.normal, S)
    | .region _ ops dr => match dr with
      | false => (runOps cx ops ops.toList S).bind fun S' => .ret (.normal, S')
      | true => (draw ops S).bind fun S' => .ret (.normal, S')
    | .seq a b => (exec cx draw bl n a S).bind fun r => match r.1 with
      | .normal => exec cx draw bl n b r.2
      | e => .ret (e, r.2)
    | .cond c a b => match evS S c with
      | .tt => exec cx draw bl n a S
      | .ff => exec cx draw bl n b S
      | .bool t => .ite t (exec cx draw bl n a S) (exec cx draw bl n b S)
      | _ => .fail "cond"
    | .block id b => match bl id with
      | some f => f S
      | none => (exec cx draw bl n b S).bind fun r => match r.1 with
        | .exit j => match Nat.beq j id with
          | true => .ret (.normal, r.2)
          | false => .ret r
        | _ => .ret r
    | .loop b => (exec cx draw bl n b S).bind fun r => match r.1 with
      | .normal => exec cx draw bl n (.loop b) r.2
      | _ => .ret r
    | .exit id => .ret (.exit id, S)
    | .ret => .ret (.ret, S)
    | _ => .fail "a form of code that is not known here"

/-- A code from a symbolic state comes to another one, whatever frame and world they stand for. -/
def Comes (P : Program) (Γ : Gam) (c : Code) (S : St) (e : Ex) (S' : St) : Prop :=
  ∀ ρ a w, Rel Γ ρ S a w → c.wp P (fun x a' w' => x = e.to ∧ ∃ ρ', Rel Γ ρ' S' a' w') a w

structure DrawOk (P : Program) (Γ : Gam) (draw : Array Oper → St → T St) : Prop where
  sound : ∀ ops S S' id, T.Reach (draw ops S) S' → Comes P Γ (.region id ops true) S .normal S'

/-- Of each block that the code holds: the rule speaks truly of it. -/
def BlocksIn (P : Program) (Γ : Gam) (bl : Blocks) : Code → Prop
  | .seq a b => BlocksIn P Γ bl a ∧ BlocksIn P Γ bl b
  | .cond _ a b => BlocksIn P Γ bl a ∧ BlocksIn P Γ bl b
  | .block id b => match bl id with
    | some f => ∀ S e S', T.Reach (f S) (e, S') → Comes P Γ (.block id b) S e S'
    | none => BlocksIn P Γ bl b
  | .loop b => BlocksIn P Γ bl b
  | .scope b => BlocksIn P Γ bl b
  | _ => True

section
variable {P : Program} {Γ : Gam} {cx : Cx} {draw : Array Oper → St → T St} {bl : Blocks}

theorem exec_sound (hc : CxOk P Γ.G cx) (hg : GlobOk Γ) (h0 : Γ.G Γ.w0) (hd : DrawOk P Γ draw) : ∀ (n : Nat),
    (∀ (c : Code) (S S' : St) (e : Ex), BlocksIn P Γ bl c → T.Reach (exec cx draw bl n c S) (e, S') → Comes P Γ c S e S') ∧
    (∀ (b : Code) (S S' : St) (e : Ex), BlocksIn P Γ bl b → T.Reach (exec cx draw bl n (.loop b) S) (e, S') → ∀ ρ a w, Rel Γ ρ S a w → Code.rounds P b (fun x a' w' => x = e.to ∧ ∃ ρ', Rel Γ ρ' S' a' w') n a w)
  | 0 => ⟨fun c S S' e _ h => (T.reach_fail h).elim, fun b S S' e _ h => (T.reach_fail h).elim⟩
  | n + 1 => by
    obtain ⟨ih, ihl⟩ := exec_sound hc hg h0 hd n
    have loopCase : ∀ (b : Code) (S S' : St) (e : Ex), BlocksIn P Γ bl b → T.Reach (exec cx draw bl (n + 1) (.loop b) S) (e, S') → ∀ ρ a w, Rel Γ ρ S a w → Code.rounds P b (fun x a' w' => x = e.to ∧ ∃ ρ', Rel Γ ρ' S' a' w') (n + 1) a w := by
      intro b S S' e hb h ρ a w hrel
      simp only [exec, T.reach_bind] at h
      obtain ⟨⟨e1, S1⟩, h1, h2⟩ := h
      have hbody := ih b S S1 e1 hb h1 ρ a w hrel
      rw [rounds_succ]
      cases e1 with
      | normal =>
        simp only at h2
        refine wp_mono hbody fun x a' w' ⟨hx, ρ', hr⟩ => ?_
        subst hx
        exact ihl b S1 S' e hb h2 ρ' a' w' hr
      | exit j =>
        simp only [T.reach_ret, Prod.mk.injEq] at h2
        obtain ⟨rfl, rfl⟩ := h2
        exact wp_mono hbody fun x a' w' ⟨hx, hr⟩ => by subst hx; exact ⟨rfl, hr⟩
      | ret =>
        simp only [T.reach_ret, Prod.mk.injEq] at h2
        obtain ⟨rfl, rfl⟩ := h2
        exact wp_mono hbody fun x a' w' ⟨hx, hr⟩ => by subst hx; exact ⟨rfl, hr⟩
    refine ⟨?_, loopCase⟩
    intro c S S' e hb h
    cases c with
    | skip =>
      simp only [exec, T.reach_ret, Prod.mk.injEq] at h
      obtain ⟨rfl, rfl⟩ := h
      exact fun ρ a w hrel => wp_skip ⟨rfl, ρ, hrel⟩
    | region id ops dr =>
      simp only [exec] at h
      cases dr with
      | false =>
        simp only [T.reach_bind, T.reach_ret, Prod.mk.injEq] at h
        obtain ⟨S1, h1, rfl, rfl⟩ := h
        exact fun ρ a w hrel => wp_region_list (runOps_sound hc hg h0 _ hrel h1 fun ρ' a' w' hr => ⟨rfl, ρ', hr⟩)
      | true =>
        simp only [T.reach_bind, T.reach_ret, Prod.mk.injEq] at h
        obtain ⟨S1, h1, rfl, rfl⟩ := h
        exact hd.sound ops S _ id h1
    | seq x y =>
      simp only [exec, T.reach_bind] at h
      obtain ⟨⟨e1, S1⟩, h1, h2⟩ := h
      have hx := ih x S S1 e1 hb.1 h1
      intro ρ a w hrel
      refine wp_seq ?_
      cases e1 with
      | normal =>
        simp only at h2
        have hy := ih y S1 S' e hb.2 h2
        refine wp_mono (hx ρ a w hrel) fun x a' w' ⟨hx, ρ', hr⟩ => ?_
        subst hx
        exact hy ρ' a' w' hr
      | exit j =>
        simp only [T.reach_ret, Prod.mk.injEq] at h2
        obtain ⟨rfl, rfl⟩ := h2
        exact wp_mono (hx ρ a w hrel) fun x a' w' ⟨hx, hr⟩ => by subst hx; exact ⟨rfl, hr⟩
      | ret =>
        simp only [T.reach_ret, Prod.mk.injEq] at h2
        obtain ⟨rfl, rfl⟩ := h2
        exact wp_mono (hx ρ a w hrel) fun x a' w' ⟨hx, hr⟩ => by subst hx; exact ⟨rfl, hr⟩
    | cond c x y =>
      simp only [exec] at h
      intro ρ a w hrel
      have hev := hrel.ev hg c
      split at h
      · rename_i hcv
        rw [hcv] at hev
        exact wp_cond_true (by simpa [SV.den] using hev) (ih x S S' e hb.1 h ρ a w hrel)
      · rename_i hcv
        rw [hcv] at hev
        exact wp_cond_false (by simpa [SV.den] using hev) (ih y S S' e hb.2 h ρ a w hrel)
      · rename_i t hcv
        rw [hcv] at hev
        rw [T.reach_ite] at h
        rcases h with ⟨rfl, h⟩ | ⟨rfl, h⟩
        · exact wp_cond_true (by simpa [SV.den] using hev) (ih x S S' e hb.1 h ρ a w hrel)
        · exact wp_cond_false (by simpa [SV.den] using hev) (ih y S S' e hb.2 h ρ a w hrel)
      · exact (T.reach_fail h).elim
    | block id b =>
      simp only [exec] at h
      simp only [BlocksIn] at hb
      split at h
      · rename_i f hf
        rw [hf] at hb
        exact hb S e S' h
      · rename_i hf
        rw [hf] at hb
        simp only [T.reach_bind] at h
        obtain ⟨⟨e1, S1⟩, h1, h2⟩ := h
        have hx := ih b S S1 e1 hb h1
        intro ρ a w hrel
        refine wp_block (wp_mono (hx ρ a w hrel) fun x a' w' ⟨hx, hr⟩ => ?_)
        subst hx
        cases e1 with
        | normal =>
          simp only [T.reach_ret, Prod.mk.injEq] at h2
          obtain ⟨rfl, rfl⟩ := h2
          exact ⟨rfl, hr⟩
        | exit j =>
          simp only at h2
          simp only [Ex.to, Exit.inBlock]
          split at h2
          · rename_i hj
            have hj := Nat.eq_of_beq_eq_true hj
            simp only [T.reach_ret, Prod.mk.injEq] at h2
            obtain ⟨rfl, rfl⟩ := h2
            rw [if_pos hj]
            exact ⟨rfl, hr⟩
          · rename_i hj
            simp only [T.reach_ret, Prod.mk.injEq] at h2
            obtain ⟨rfl, rfl⟩ := h2
            rw [if_neg (fun e => by rw [e, Nat.beq_refl] at hj; cases hj)]
            exact ⟨rfl, hr⟩
        | ret =>
          simp only [T.reach_ret, Prod.mk.injEq] at h2
          obtain ⟨rfl, rfl⟩ := h2
          exact ⟨rfl, hr⟩
    | loop b =>
      exact fun ρ a w hrel => wp_loop_rounds (n + 1) (loopCase b S S' e hb h ρ a w hrel)
    | exit id =>
      simp only [exec, T.reach_ret, Prod.mk.injEq] at h
      obtain ⟨rfl, rfl⟩ := h
      exact fun ρ a w hrel => wp_exit ⟨rfl, ρ, hrel⟩
    | ret =>
      simp only [exec, T.reach_ret, Prod.mk.injEq] at h
      obtain ⟨rfl, rfl⟩ := h
      exact fun ρ a w hrel => wp_ret ⟨rfl, ρ, hrel⟩
    | rangeFunc _ _ _ _ => exact (T.reach_fail h).elim
    | scope _ => exact (T.reach_fail h).elim
    | label _ => exact (T.reach_fail h).elim
    | goto _ => exact (T.reach_fail h).elim
    | refuse _ => exact (T.reach_fail h).elim
end

/-! ### Results, functions -/
def resS1 (cx : Cx) (S : St) : ResultVar → T SV
  | .tmp t => .ret (getS S.tmps t)
  | .cell a t => loadS cx S t (getS S.tmps a)

def resSL (cx : Cx) (S : St) : List ResultVar → T (List SV)
  | [] => .ret []
  | r :: rs => (resS1 cx S r).bind fun v => (resSL cx S rs).bind fun vs => .ret (v :: vs)

def resS (cx : Cx) (S : St) (rs : List ResultVar) : T SV :=
  (resSL cx S rs).bind fun vs => match vs with
    | [v] => .ret v
    | vs => .ret (.tup vs)

section
variable {P : Program} {Γ : Gam} {cx : Cx}

def rdRes (tmps : Array Value) : ResultVar → Sem Value
  | .tmp t => pure (tmps.getD t undef)
  | .cell b t => do loadVar t (← asAddr (tmps.getD b undef))

theorem results_eq (fn : Func) (tmps : Array Value) : results fn tmps = (do
    let vs ← fn.results.mapM (rdRes tmps)
    pure (if h : vs.size = 1 then vs[0] else .tuple vs)) := by
  unfold results
  congr 2

theorem resSL_sound (hc : CxOk P Γ.G cx) {ρ : Env} {S : St} {a : Act} {w : World} (h : Rel Γ ρ S a w) : ∀ (rs : List ResultVar) (vs : List SV), T.Reach (resSL cx S rs) vs →
    (rs.mapM (rdRes a.tmps)).run P w = .ok (denL ρ vs) w
  | [], vs, hr => by
    simp only [resSL, T.reach_ret] at hr
    subst hr
    simp [denL]
  | r :: rs, vs, hr => by
    simp only [resSL, T.reach_bind, T.reach_ret] at hr
    obtain ⟨v, h1, vs', h2, rfl⟩ := hr
    have ih := resSL_sound hc h rs vs' h2
    have hget : ∀ t, a.tmps.getD t undef = (getS S.tmps t).den ρ := fun t => by rw [h.tm, getS_eq]; exact getD_denL ρ S.tmps t
    rw [List.mapM_cons]
    cases r with
    | tmp t =>
      simp only [resS1, T.reach_ret] at h1
      subst h1
      simp only [rdRes, Sem.run_bind, Sem.run_pure, Result.andThen_ok, ih, hget, denL]
    | cell b t =>
      simp only [resS1] at h1
      obtain ⟨-, -, h3⟩ := load_sound hc h h1
      obtain ⟨ad, hp⟩ := load_ptr h h1
      rw [hp] at h3
      simp only [Instr.loadAt, Instr.sureAddr, Sem.run_bind, Sem.run_pure, Result.andThen_ok] at h3
      simp only [rdRes, Sem.run_bind, Sem.run_pure, Result.andThen_ok, hget, hp, asAddr, h3, ih, denL]

theorem resS_sound (hc : CxOk P Γ.G cx) {ρ : Env} {S : St} {a : Act} {w : World} (h : Rel Γ ρ S a w) {fn : Func} {v : SV} (hr : T.Reach (resS cx S fn.results.toList) v) : (results fn a.tmps).run P w = .ok (v.den ρ) w := by
  unfold resS at hr
  rw [T.reach_bind] at hr
  obtain ⟨vs, h1, h2⟩ := hr
  have hl := resSL_sound hc h fn.results.toList vs h1
  have hm : (fn.results.mapM (rdRes a.tmps)).run P w = .ok (denL ρ vs).toArray w := by
    rw [← Array.toList_mapM, Sem.run_map] at hl
    generalize (fn.results.mapM (rdRes a.tmps)).run P w = r at hl ⊢
    cases r with
    | ok x w' =>
      simp only [Result.andThen_ok, Result.ok.injEq] at hl
      obtain ⟨hl, rfl⟩ := hl
      rw [← hl]
    | halt x w' => cases hl
  rw [results_eq]
  simp only [Sem.run_bind, hm, Result.andThen_ok, Sem.run_pure]
  split at h2
  · rename_i u
    rw [T.reach_ret] at h2; subst h2
    simp [denL]
  · rename_i hne
    rw [T.reach_ret] at h2; subst h2
    have : (denL ρ vs).toArray.size ≠ 1 := by
      rw [denL_eq]
      simp
      intro hl
      match vs, hl with
      | [x], _ => exact hne x rfl
    rw [dif_neg this]
    simp [SV.den]

theorem resSL_wf (hc : CxOk P Γ.G cx) {ρ : Env} {S : St} {a : Act} {w : World} (h : Rel Γ ρ S a w) : ∀ (rs : List ResultVar) (vs : List SV), T.Reach (resSL cx S rs) vs → ∀ v ∈ vs, wf v
  | [], vs, hr => by
    simp only [resSL, T.reach_ret] at hr
    subst hr
    intro v hv; cases hv
  | r :: rs, vs, hr => by
    simp only [resSL, T.reach_bind, T.reach_ret] at hr
    obtain ⟨v, h1, vs', h2, rfl⟩ := hr
    intro u hu
    rcases List.mem_cons.1 hu with rfl | hu
    · cases r with
      | tmp t =>
        simp only [resS1, T.reach_ret] at h1
        subst h1
        exact h.ev_wf (.tmp t)
      | cell b t =>
        simp only [resS1] at h1
        exact (load_sound hc h h1).1
    · exact resSL_wf hc h rs vs' h2 u hu

theorem resS_wf (hc : CxOk P Γ.G cx) {ρ : Env} {S : St} {a : Act} {w : World} (h : Rel Γ ρ S a w) {rs : List ResultVar} {v : SV} (hr : T.Reach (resS cx S rs) v) : wf v := by
  unfold resS at hr
  rw [T.reach_bind] at hr
  obtain ⟨vs, h1, h2⟩ := hr
  have hl := resSL_wf hc h rs vs h1
  split at h2
  · rw [T.reach_ret] at h2; subst h2; exact hl _ (by simp)
  · rw [T.reach_ret] at h2; subst h2; simp only [wf]; exact wfL_iff.2 hl

/-- The frame at a function's entry. -/
def entryTmps (args : List SV) (n : Nat) : List SV := args ++ List.replicate (n - args.length) (.raw undef)

/-- A block for calls that were put off is shut. -/
theorem Rel.shut {Γ : Gam} {ρ : Env} {S : St} {a : Act} {w : World} (h : Rel Γ ρ S a w) {D : Nat} {Ds : List Nat} (hd : a.defers = (D :: Ds).map markOf) (hnd : (D :: Ds).Nodup) (hall : ∀ D' ∈ D :: Ds, Γ.w0.heap.size ≤ D' ∧ (∀ o, ¬ Γ.kp D' o) ∧ Keep ρ S.mem w D' noCalls) :
    Rel Γ ρ S { a with defers := Ds.map markOf } (w.putObj D (.deferred none)) ∧ ∀ D' ∈ Ds, Γ.w0.heap.size ≤ D' ∧ (∀ o, ¬ Γ.kp D' o) ∧ Keep ρ S.mem (w.putObj D (.deferred none)) D' noCalls := by
  obtain ⟨hD, hn, hk⟩ := hall D (by simp)
  have hg := grownBy_putObj' w D (.deferred none)
  have hkeep : ∀ D' o, D' ≠ D → Keep ρ S.mem w D' o → Keep ρ S.mem (w.putObj D (.deferred none)) D' o := fun D' _ hne hk' =>
    ⟨(hg.block D' (Array.getElem?_eq_some_iff.1 hk'.1).1 (fun e => by cases e; exact hne rfl)).trans hk'.1, hk'.2⟩
  have hrest : ∀ D' ∈ Ds, Γ.w0.heap.size ≤ D' ∧ (∀ o, ¬ Γ.kp D' o) ∧ Keep ρ S.mem (w.putObj D (.deferred none)) D' noCalls := fun D' hm => by
    obtain ⟨h1, h2, h3⟩ := hall D' (by simp [hm])
    exact ⟨h1, h2, hkeep D' _ (fun e => by subst e; exact (List.nodup_cons.1 hnd).1 hm) h3⟩
  refine ⟨⟨h.tm, ⟨⟨Ds, rfl, (List.nodup_cons.1 hnd).2, hrest⟩, fun D' o hD' => hkeep D' o (fun e => by subst e; exact hn o hD') (h.df.2.1 D' o hD'), Nat.le_trans h.df.2.2 hg.size⟩, fun i b hl => ?_, h.dj, below_grown h.below h.below.size hg (fun g e => by cases e; exact hD), h.pin, h.nx, h.wfT, h.idT⟩, hrest⟩
  exact ⟨(h.mem i b hl).1.grown hg (fun g e => by cases e; exact ⟨hD, fun hp => hk.2 i b hl hp⟩), (h.mem i b hl).2⟩

theorem Rel.leaves {Γ : Gam} {ρ : Env} {S : St} {P : Program} {fn : Func} {R : Ending → World → Prop} : ∀ (Ds : List Nat) {a : Act} {w : World}, Rel Γ ρ S a w → a.defers = Ds.map markOf → Ds.Nodup → (∀ D' ∈ Ds, Γ.w0.heap.size ≤ D' ∧ (∀ o, ¬ Γ.kp D' o) ∧ Keep ρ S.mem w D' noCalls) →
    (∀ a' w', Rel Γ ρ S a' w' → a'.tmps = a.tmps → ∃ v, (results fn a.tmps).run P w' = .ok v w' ∧ R (.returned v) w') → LeavesInM Fence.wide 3 P fn a.tmps R a.defers .returning w
  | [], a, w, h, hd, _, _, hr => by
    rw [hd]
    exact hr a w h rfl
  | D :: Ds, a, w, h, hd, hnd, hall, hr => by
    obtain ⟨hs, hrest⟩ := h.shut hd hnd hall
    rw [hd]
    refine ⟨by simp, .inl ⟨D, _, rfl, run_takeDeferred (hall D (by simp)).2.2.1, ?_⟩⟩
    exact Rel.leaves Ds hs rfl (List.nodup_cons.1 hnd).2 hrest fun a' w' hrel ht => hr a' w' hrel ht

/-- A function's run from a symbolic state on: what it hands back, and the state at its end. -/
def runFn (cx : Cx) (draw : Array Oper → St → T St) (bl : Blocks) (fuel : Nat) (c : Code) (ntmps : Nat) (rs : List ResultVar) (args : List SV) (mem : Mem) (next : Nat) : T (SV × St) :=
  (exec cx draw bl fuel c { tmps := entryTmps args ntmps, mem := mem, next := next }).bind fun r => match r.1 with
    | .exit _ => .fail "a function left by an exit"
    | _ => (resS cx r.2 rs).bind fun v => .ret (v, r.2)

theorem runFn_sound {draw : Array Oper → St → T St} {bl : Blocks} (hc : CxOk P Γ.G cx) (hg : GlobOk Γ) (h0 : Γ.G Γ.w0) (hd : DrawOk P Γ draw) {f : FuncId} {fn : Func} {c : Code} (hf : P.funcs[f]? = some fn) (hb : fn.body = some c) (hbl : BlocksIn P Γ bl c)
    {fuel : Nat} {args : List SV} {mem : Mem} {next : Nat} {v : SV} {S' : St} (hr : T.Reach (runFn cx draw bl fuel c fn.ntmps fn.results.toList args mem next) (v, S'))
    {ρ : Env} {w : World} (hrel : Rel Γ ρ { tmps := entryTmps args fn.ntmps, mem := mem, next := next } { tmps := (denL ρ (entryTmps args fn.ntmps)).toArray, defers := [] } w) :
    Calls P f (denL ρ args).toArray w fun e w' => ∃ ρ' a', e = .returned (v.den ρ') ∧ Rel Γ ρ' S' a' w' ∧ wf v := by
  unfold runFn at hr
  rw [T.reach_bind] at hr
  obtain ⟨⟨e, S1⟩, h1, h2⟩ := hr
  have hcome := (exec_sound hc hg h0 hd fuel).1 c _ S1 e hbl h1 ρ _ w hrel
  have htm : (denL ρ args).toArray ++ Array.replicate (fn.ntmps - (denL ρ args).toArray.size) undef = (denL ρ (entryTmps args fn.ntmps)).toArray := by
    apply Array.ext'
    simp [denL_eq, entryTmps, SV.den]
  refine (callsIn_wide (n := 3)).1 (callsIn_of_wp_marks hf hb trivial ?_ rfl)
  rw [htm]
  refine wpIn_wide.2 (wp_mono hcome fun x a' w' ⟨hx, ρ', hr'⟩ => ?_)
  subst hx
  have hend : ∀ u, T.Reach (resS cx S1 fn.results.toList) u → LeavesInM Fence.wide 3 P fn a'.tmps (fun e w' => ∃ ρ' a', e = .returned (u.den ρ') ∧ Rel Γ ρ' S1 a' w' ∧ wf u) a'.defers .returning w' := fun u hu => by
    obtain ⟨Ds, h0, h1, h2⟩ := hr'.df.1
    exact Rel.leaves Ds hr' h0 h1 h2 fun a2 w2 hrel ht => ⟨_, by rw [← ht]; exact resS_sound hc hrel hu, ρ', a2, rfl, hrel, resS_wf hc hrel hu⟩
  cases e with
  | exit j => exact (T.reach_fail h2).elim
  | normal =>
    simp only [T.reach_bind, T.reach_ret, Prod.mk.injEq] at h2
    obtain ⟨u, hu, rfl, rfl⟩ := h2
    exact hend _ hu
  | ret =>
    simp only [T.reach_bind, T.reach_ret, Prod.mk.injEq] at h2
    obtain ⟨u, hu, rfl, rfl⟩ := h2
    exact hend _ hu
end
end Go.Sx

/- The symbolic layer, part L: regions whose order is left open. One run in the text's order serves all orders, if operations that are not ordered touch neither each other's slots nor each other's blocks. -/
namespace Go.Sx
open Go.RowKit (Below)

/-- A slice's vector, and the one that it is a part of. -/
def vecT (S : St) (i : Nat) : List Nat := i :: match look S.mem i with
  | some (.view p _ _ _) => [p]
  | _ => []

/-- The blocks that an operation touches. -/
def blkOf (S : St) : SV → List Nat
  | .ptr b _ _ => [b]
  | .slice b _ _ _ _ => [b]
  | .sl i => vecT S i
  | .vptr i _ => vecT S i
  | .mp i => [i]
  | _ => []

def vecTs (S : St) : List Nat → List Nat
  | [] => []
  | i :: l => vecT S i ++ vecTs S l

def touch (S : St) (o : Oper) : List Nat :=
  match o.op with
  | .alloc _ => [S.next]
  | .box _ _ => [S.next]
  | .load _ x => blkOf S (evS S x)
  | .store _ x _ => blkOf S (evS S x)
  | .indexAddr _ x _ => blkOf S (evS S x)
  | .slice _ x _ _ _ => S.next :: blkOf S (evS S x)
  | .convert _ _ x => blkOf S (evS S x)
  | .makeSlice _ _ _ => [S.next]
  | .buildSlice _ _ _ => [S.next]
  | .makeMap _ _ => [S.next]
  | .binOp _ _ x _ _ => match evS S x with
    | .sl i => [nzK i]
    | _ => []
  | .lookup _ m _ _ => blkOf S (evS S m)
  | .mapEntry _ m _ => blkOf S (evS S m)
  | .entryStore _ m _ _ => blkOf S (evS S m)
  | .mapUpdate _ m _ _ => blkOf S (evS S m)
  | .call c => match c.callee with
    | .builtin .copy => match c.args[0]?, c.args[1]? with
      | some x, some y => blkOf S (evS S x) ++ blkOf S (evS S y)
      | _, _ => []
    | .builtin .len => match c.args[0]? with
      | some x => blkOf S (evS S x)
      | none => []
    | .builtin .append => match c.args.toList with
      | [x, y] => S.next :: (blkOf S (evS S x) ++ blkOf S (evS S y))
      | _ => []
    | .value f => match evS S f with
      | .fn _ caps => S.next :: vecTs S (slsL (c.args.toList.map (evS S) ++ caps))
      | _ => []
    | _ => []
  | _ => []

theorem vecT_congr {S1 S2 : St} {i : Nat} (h : ∀ j ∈ vecT S1 i, look S1.mem j = look S2.mem j) : vecT S1 i = vecT S2 i ∧ vecAt S1.mem i = vecAt S2.mem i := by
  have h0 := h i (by simp [vecT])
  unfold vecT vecAt
  rw [h0]
  cases hl : look S2.mem i with
  | none => exact ⟨rfl, rfl⟩
  | some b =>
    cases b <;> try exact ⟨rfl, rfl⟩
    rename_i p st off n
    have h1 := h p (by simp [vecT, h0, hl])
    simp only [h1]
    exact ⟨trivial, trivial⟩

theorem vecTs_congr {S1 S2 : St} : ∀ {l : List Nat}, (∀ j ∈ vecTs S1 l, look S1.mem j = look S2.mem j) → vecTs S1 l = vecTs S2 l ∧ l.map (vecAt S1.mem) = l.map (vecAt S2.mem)
  | [], _ => ⟨rfl, rfl⟩
  | i :: l, h => by
    simp only [vecTs, List.mem_append] at h
    have h1 := vecT_congr (i := i) fun j hj => h j (.inl hj)
    have h2 := vecTs_congr (l := l) fun j hj => h j (.inr hj)
    simp only [vecTs, h1.1, h2.1, List.map_cons, h1.2, h2.2]
    exact ⟨trivial, trivial⟩

theorem blkOf_congr {S1 S2 : St} {x : SV} (h : ∀ j ∈ blkOf S1 x, look S1.mem j = look S2.mem j) : blkOf S1 x = blkOf S2 x := by
  cases x <;> simp only [blkOf] at h ⊢
  · exact (vecT_congr h).1
  · exact (vecT_congr h).1

theorem vecAt_root_mem {S : St} {i : Nat} {V : VI} (h : vecAt S.mem i = some V) : V.root ∈ vecT S i := by
  unfold vecAt at h
  unfold vecT
  split at h
  · cases h; simp
  · rename_i p st off n hl
    rw [hl]
    split at h
    · split at h
      · cases h; simp
      · cases h
    · cases h
  · cases h

theorem map_ev {S1 S2 : St} {l : List Operand} (h : ∀ x ∈ l, evS S1 x = evS S2 x) : l.map (evS S1) = l.map (evS S2) := List.map_congr_left h

theorem pureS_congr (cx : Cx) {S1 S2 : St} (o : Oper) (h : ∀ x ∈ o.op.operands, evS S1 x = evS S2 x) : pureS cx o (evS S1) = pureS cx o (evS S2) := by
  obtain ⟨dst, op, type, pos, after, guard⟩ := o
  cases op <;> simp only [Op.operands] at h <;> simp only [pureS]
  case move x => rw [h x (by simp)]
  case assign x => rw [h x (by simp)]
  case pick c a b => rw [h c (by simp), h a (by simp), h b (by simp)]
  case build t parts =>
    rw [List.map_congr_left (f := fun x : Nat × Operand => (x.1, evS S1 x.2)) (g := fun x => (x.1, evS S2 x.2)) (fun x hx => by rw [h x.2 (by simp; exact ⟨x.1, by simpa using hx⟩)])]
  case binOp op t x y yt => rw [h x (by simp), h y (by simp)]
  case unOp op t x => rw [h x (by simp)]
  case convert s d x => simp only [h x (by simp)]
  case fieldAddr s x f => rw [h x (by simp)]
  case field s x f => rw [h x (by simp)]
  case indexAddr t x i => simp only [h x (by simp), h i (by simp)]
  case index t x i => rw [h x (by simp), h i (by simp)]
  case extract x i => rw [h x (by simp)]
  case slice t x lo hi mx =>
    cases mx with
    | some _ => cases isSl (evS S1 x) <;> cases isSl (evS S2 x) <;> rfl
    | none =>
      have e1 : lo.map (evS S1) = lo.map (evS S2) := by cases lo <;> simp; exact h _ (by simp)
      have e2 : hi.map (evS S1) = hi.map (evS S2) := by cases hi <;> simp; exact h _ (by simp)
      simp only [h x (by simp), e1, e2]
  case makeFunc fn first caps =>
    rw [map_ev (l := caps.toList) (fun x hx => h x (by simp; exact .inr (by simpa using hx)))]
  case call c =>
    cases hc : c.callee with
    | builtin b =>
      cases b <;> try rfl
      simp only
      cases c.argTypes[0]? with
      | none => rfl
      | some t =>
        cases hx : c.args[0]? with
        | none => rfl
        | some x =>
          simp only
          rw [h x (by simp only [Call.operands, hc]; simp; exact Array.mem_of_getElem? hx)]
    | invoke r m => rfl
    | value f =>
      simp only
      rw [h f (by simp [Call.operands, hc]), map_ev (l := c.args.toList) (fun x hx => h x (by simp only [Call.operands, hc]; simp; exact .inr (by simpa using hx)))]

theorem loadS_congr (cx : Cx) {S1 S2 : St} {t : TypeId} {x : SV} (h : ∀ i ∈ blkOf S1 x, look S1.mem i = look S2.mem i) : loadS cx S1 t x = loadS cx S2 t x := by
  unfold loadS
  cases cx.tab t with
  | none => cases x <;> rfl
  | some ti =>
    cases x <;> try rfl
    · rename_i b o y
      simp only
      rw [h b (by simp [blkOf])]
    · simp only [blkOf] at h
      simp only [(vecT_congr h).2]

theorem writeV_congr {S1 S2 : St} {i o c : Nat} {vs : List SV} (h : ∀ j ∈ vecT S1 i, look S1.mem j = look S2.mem j) : writeV S1 i o c vs = writeV S2 i o c vs := by
  have h1 := (vecT_congr h).2
  unfold writeV
  rw [← h1]
  cases hv : vecAt S1.mem i with
  | none => rfl
  | some V => simp only; rw [h V.root (vecAt_root_mem hv)]

theorem storeE_congr (cx : Cx) {S1 S2 : St} {t : TypeId} {x v : SV} (h : ∀ i ∈ blkOf S1 x, look S1.mem i = look S2.mem i) : storeE cx S1 t x v = storeE cx S2 t x v := by
  unfold storeE
  cases cx.tab t with
  | none => cases x <;> rfl
  | some ti =>
    cases x <;> try rfl
    · rename_i b o y
      simp only
      rw [h b (by simp [blkOf])]
    · simp only [blkOf] at h
      simp only [writeV_congr h]

theorem copyE_congr (cx : Cx) {S1 S2 : St} {t : TypeId} {x y : SV} (h : ∀ i ∈ blkOf S1 x ++ blkOf S1 y, look S1.mem i = look S2.mem i) : copyE cx S1 t x y = copyE cx S2 t x y := by
  unfold copyE
  cases cx.tab t with
  | none => cases x <;> cases y <;> rfl
  | some ti =>
    cases x <;> try rfl
    cases y <;> try rfl
    rename_i b o z len cap b' o' z' len' cap'
    simp only
    rw [h b (by simp [blkOf]), h b' (by simp [blkOf])]

theorem copyV_congr (cx : Cx) {S1 S2 : St} {t : TypeId} {x : SV} {j : Nat} (h : ∀ i ∈ blkOf S1 x ++ vecT S1 j, look S1.mem i = look S2.mem i) : copyV cx S1 t x j = copyV cx S2 t x j := by
  have h1 := (vecT_congr (i := j) fun k hk => h k (List.mem_append_right _ hk)).2
  unfold copyV
  rw [← h1]
  cases cx.tab t with
  | none => cases x <;> cases vecAt S1.mem j <;> rfl
  | some ti =>
    cases vecAt S1.mem j with
    | none =>
      cases x <;> try rfl
      rename_i len _
      cases len <;> rfl
    | some V =>
      cases x <;> try rfl
      rename_i b o z len cap
      cases len <;> try rfl
      simp only
      rw [h b (by simp [blkOf])]

theorem newE_congr {S1 S2 : St} (b : Blk) (o : Option Nat) (hn : S1.next = S2.next) (h : look S1.mem S1.next = look S2.mem S1.next) : newE S1 b o = newE S2 b o := by
  unfold newE
  rw [h, hn]

theorem appSrc_congr {S1 S2 : St} {k : IntKind} {st : Nat} {y : SV} (h : ∀ i ∈ blkOf S1 y, look S1.mem i = look S2.mem i) : appSrc S1 k st y = appSrc S2 k st y := by
  unfold appSrc
  cases y
  case slice b o x len cap =>
    cases len <;> try rfl
    simp only
    rw [h b (by simp [blkOf])]
  case sl j =>
    simp only [blkOf] at h
    simp only [(vecT_congr h).2]
  case raw v =>
    cases v <;> try rfl
    rename_i a n c
    cases n <;> rfl
  all_goals rfl

theorem appDst_congr {S1 S2 : St} {e : TypeId} {k : IntKind} {st : Nat} {x : SV} (h : ∀ i ∈ blkOf S1 x, look S1.mem i = look S2.mem i) : appDst S1 e k st x = appDst S2 e k st x := by
  unfold appDst
  cases x
  case sl i =>
    simp only
    rw [h i (by simp [blkOf, vecT])]
  case slice b o x len cap =>
    cases len <;> try rfl
    rename_i n
    cases n <;> try rfl
    cases cap <;> try rfl
    rename_i m
    cases m <;> rfl
  case raw v =>
    cases v <;> try rfl
    rename_i a n c
    cases n <;> try rfl
    cases c <;> rfl
  all_goals rfl

theorem appE_congr (cx : Cx) {S1 S2 : St} {t : TypeId} {x y : SV} (hn : S1.next = S2.next) (h : ∀ i ∈ S1.next :: (blkOf S1 x ++ blkOf S1 y), look S1.mem i = look S2.mem i) : appE cx S1 t x y = appE cx S2 t x y := by
  unfold appE
  have h1 := fun k st => appSrc_congr (k := k) (st := st) (S1 := S1) (S2 := S2) (y := y) (fun i hi => h i (by simp [hi]))
  have h2 := fun e k st => appDst_congr (e := e) (k := k) (st := st) (S1 := S1) (S2 := S2) (x := x) (fun i hi => h i (by simp [hi]))
  have h3 := fun b o => newE_congr (S1 := S1) (S2 := S2) b o hn (h _ (by simp))
  simp only [h1, h2, h3]

theorem lenV_congr (cx : Cx) {S1 S2 : St} {t : TypeId} {i : Nat} (h : ∀ j ∈ vecT S1 i, look S1.mem j = look S2.mem j) : lenV cx S1 t i = lenV cx S2 t i := by
  unfold lenV
  rw [(vecT_congr h).2]

theorem idxV_congr (cx : Cx) {S1 S2 : St} {t : TypeId} {i : Nat} {x : SV} (h : ∀ j ∈ vecT S1 i, look S1.mem j = look S2.mem j) : idxV cx S1 t i x = idxV cx S2 t i x := by
  unfold idxV
  rw [(vecT_congr h).2]

theorem sliE_congr (cx : Cx) {S1 S2 : St} {t : TypeId} {i : Nat} {lo hi mx : Option SV} (hn : S1.next = S2.next) (h : ∀ j ∈ S1.next :: vecT S1 i, look S1.mem j = look S2.mem j) : sliE cx S1 t i lo hi mx = sliE cx S2 t i lo hi mx := by
  unfold sliE
  have h3 := fun b o => newE_congr (S1 := S1) (S2 := S2) b o hn (h _ (by simp))
  simp only [(vecT_congr (i := i) fun j hj => h j (by simp [hj])).2, h3]

theorem makeE_congr (cx : Cx) {S1 S2 : St} {t : TypeId} {x y : SV} (hn : S1.next = S2.next) (h : look S1.mem S1.next = look S2.mem S1.next) : makeE cx S1 t x y = makeE cx S2 t x y := by
  unfold makeE
  simp only [fun b o => newE_congr (S1 := S1) (S2 := S2) b o hn h]

theorem bldV_congr (cx : Cx) {S1 S2 : St} {t : TypeId} {len : Nat} {parts : List (Nat × SV)} (hn : S1.next = S2.next) (h : look S1.mem S1.next = look S2.mem S1.next) : bldV cx S1 t len parts = bldV cx S2 t len parts := by
  unfold bldV
  simp only [fun b o => newE_congr (S1 := S1) (S2 := S2) b o hn h]

theorem touch_congr {S1 S2 : St} (o : Oper) (h : ∀ x ∈ o.op.operands, evS S1 x = evS S2 x) (hn : S1.next = S2.next) (hm : ∀ i ∈ touch S1 o, look S1.mem i = look S2.mem i) : touch S1 o = touch S2 o := by
  obtain ⟨dst, op, type, pos, after, guard⟩ := o
  unfold touch at hm ⊢
  simp only at h hm ⊢
  cases op <;> simp only [Op.operands] at h <;> try rfl
  case alloc t => simp only [hn]
  case box t x => simp only [hn]
  case load t x => simp only at hm ⊢; rw [← h x (by simp), blkOf_congr hm]
  case store t x v => simp only at hm ⊢; rw [← h x (by simp), blkOf_congr hm]
  case indexAddr t x i => simp only at hm ⊢; rw [← h x (by simp), blkOf_congr hm]
  case slice t x lo hi mx => simp only at hm ⊢; rw [← h x (by simp), ← hn, blkOf_congr fun j hj => hm j (by simp [hj])]
  case convert s d x => simp only at hm ⊢; rw [← h x (by simp), blkOf_congr hm]
  case makeSlice t l c => simp only [hn]
  case buildSlice t l c => simp only [hn]
  case makeMap t r => simp only [hn]
  case binOp op t x y yt => simp only at hm ⊢; rw [← h x (by simp)]
  case lookup t m x ok => simp only at hm ⊢; rw [← h m (by simp), blkOf_congr hm]
  case mapEntry t m x => simp only at hm ⊢; rw [← h m (by simp), blkOf_congr hm]
  case entryStore t m s x => simp only at hm ⊢; rw [← h m (by simp), blkOf_congr hm]
  case mapUpdate t m x v => simp only at hm ⊢; rw [← h m (by simp), blkOf_congr hm]
  case call c =>
    simp only at hm ⊢
    cases hc : c.callee with
    | invoke r m => rfl
    | value f =>
      simp only [hc] at hm ⊢
      have hf := h f (by simp [Call.operands, hc])
      have ha := map_ev (S1 := S1) (S2 := S2) (l := c.args.toList) (fun x hx => h x (by simp only [Call.operands, hc]; simp; exact .inr (by simpa using hx)))
      rw [← hf, ← ha, ← hn]
      cases hv : evS S1 f <;> try rfl
      rename_i g caps
      rw [hv] at hm
      simp only at hm ⊢
      rw [(vecTs_congr fun j hj => hm j (by simp [hj])).1]
    | builtin b =>
      cases b <;> try rfl
      case len =>
        simp only [hc] at hm ⊢
        cases hx : c.args[0]? with
        | none => rfl
        | some x =>
          simp only [hx] at hm ⊢
          rw [← h x (by simp only [Call.operands, hc]; simp; exact Array.mem_of_getElem? hx), blkOf_congr hm]
      case append =>
        simp only [hc] at hm ⊢
        cases hl : c.args.toList with
        | nil => rfl
        | cons x l =>
          cases l with
          | nil => rfl
          | cons y l =>
            cases l with
            | cons _ _ => rfl
            | nil =>
              simp only [hl] at hm ⊢
              have hxm : x ∈ c.args := by rw [← Array.mem_toList_iff, hl]; simp
              have hym : y ∈ c.args := by rw [← Array.mem_toList_iff, hl]; simp
              rw [← h x (by simp only [Call.operands, hc]; simp; exact hxm), ← h y (by simp only [Call.operands, hc]; simp; exact hym), ← hn, blkOf_congr (fun j hj => hm j (by simp [hj])), blkOf_congr (x := evS S1 y) (fun j hj => hm j (by simp [hj]))]
      case copy =>
        simp only [hc] at hm ⊢
        cases hx : c.args[0]? with
        | none => rfl
        | some x =>
          cases hy : c.args[1]? with
          | none => rfl
          | some y =>
            simp only [hx, hy] at hm ⊢
            rw [← h x (by simp only [Call.operands, hc]; simp; exact Array.mem_of_getElem? hx), ← h y (by simp only [Call.operands, hc]; simp; exact Array.mem_of_getElem? hy), blkOf_congr (fun j hj => hm j (by simp [hj])), blkOf_congr (x := evS S1 y) (fun j hj => hm j (by simp [hj]))]

/-- What an operation does hangs on its operands, its number, and the blocks that it touches, on nothing else. -/
theorem effS_congr (cx : Cx) {S1 S2 : St} (o : Oper) (h : ∀ x ∈ o.op.operands, evS S1 x = evS S2 x) (hn : S1.next = S2.next) (hm : ∀ i ∈ touch S1 o, look S1.mem i = look S2.mem i) :
    effS cx S1 o = effS cx S2 o ∧ touch S1 o = touch S2 o := by
  have hp := pureS_congr cx o h
  refine ⟨?_, touch_congr o h hn hm⟩
  unfold effS
  rw [hp]
  obtain ⟨dst, op, type, pos, after, guard⟩ := o
  cases pureS cx ⟨dst, op, type, pos, after, guard⟩ (evS S2) with
  | some t => rfl
  | none =>
    simp only
    unfold touch at hm
    simp only at h hm
    cases op <;> simp only [Op.operands] at h <;> try rfl
    case alloc t =>
      simp only
      cases cx.tab t with
      | none => rfl
      | some ti =>
        simp only
        have := hm S1.next (by simp)
        unfold allocE
        rw [← hn, this]
    case box t x =>
      simp only
      have := hm S1.next (by simp)
      unfold allocE
      rw [← hn, this, h x (by simp)]
    case load t x =>
      simp only at hm ⊢
      rw [loadS_congr cx hm, h x (by simp)]
    case store t x v =>
      simp only at hm ⊢
      rw [storeE_congr cx hm, h x (by simp), h v (by simp)]
    case indexAddr t x i =>
      simp only at hm ⊢
      rw [← h x (by simp), ← h i (by simp)]
      cases hv : evS S1 x <;> try rfl
      rw [hv] at hm
      simp only [blkOf] at hm ⊢
      exact idxV_congr cx hm
    case slice t x lo hi mx =>
      simp only at hm ⊢
      have e1 : lo.map (evS S1) = lo.map (evS S2) := by cases lo <;> simp; exact h _ (by simp)
      have e2 : hi.map (evS S1) = hi.map (evS S2) := by cases hi <;> simp; exact h _ (by simp)
      have e3 : mx.map (evS S1) = mx.map (evS S2) := by cases mx <;> simp; exact h _ (by simp)
      rw [← h x (by simp), ← e1, ← e2, ← e3]
      cases hv : evS S1 x <;> try rfl
      rw [hv] at hm
      simp only [blkOf] at hm ⊢
      exact sliE_congr cx hn hm
    case convert s d x =>
      simp only at hm ⊢
      rw [← h x (by simp)]
      cases hv : evS S1 x <;> try rfl
      rw [hv] at hm
      simp only [blkOf] at hm ⊢
      unfold strE markE
      rw [(vecT_congr hm).2, hm _ (by simp [vecT])]
    case makeSlice t l c =>
      simp only at hm ⊢
      rw [← h l (by simp), ← h c (by simp)]
      exact makeE_congr cx hn (hm _ (by simp))
    case buildSlice t len parts =>
      simp only at hm ⊢
      rw [List.map_congr_left (f := fun x : Nat × Operand => (x.1, evS S1 x.2)) (g := fun x => (x.1, evS S2 x.2)) (fun x hx => by rw [h x.2 (by simp; exact ⟨x.1, by simpa using hx⟩)])]
      exact bldV_congr cx hn (hm _ (by simp))
    case binOp op t x y yt =>
      simp only at hm ⊢
      rw [← h x (by simp), ← h y (by simp)]
      cases hx : evS S1 x
      case sl i =>
        rw [hx] at hm
        have hl := hm (nzK i) (by simp)
        have hq : ∀ eq, nilE S1 eq cx t i = nilE S2 eq cx t i := fun eq => by unfold nilE; rw [hl]
        cases evS S1 y <;> try rfl
        rename_i v
        cases v <;> try rfl
        rename_i ao n c
        cases ao <;> try rfl
        cases n <;> try rfl
        cases c <;> try rfl
        simp only [hq]
      all_goals (cases evS S1 y <;> rfl)
    case makeMap t r =>
      simp only at hm ⊢
      cases r with
      | some _ => rfl
      | none =>
        have := hm S1.next (by simp)
        unfold mkMapE
        rw [← hn, this]
    case lookup t m x ok =>
      simp only at hm ⊢
      rw [← h m (by simp), ← h x (by simp)]
      cases ok with
      | true => cases evS S1 m <;> rfl
      | false =>
        cases hv : evS S1 m <;> try rfl
        rw [hv] at hm
        simp only
        unfold lookupE
        rw [hm _ (by simp [blkOf])]
    case mapEntry t m x =>
      simp only at hm ⊢
      rw [← h m (by simp), ← h x (by simp)]
      cases hv : evS S1 m <;> try rfl
      rw [hv] at hm
      simp only
      unfold entryE
      rw [hm _ (by simp [blkOf])]
    case entryStore t m s x =>
      simp only at hm ⊢
      rw [← h m (by simp), ← h s (by simp), ← h x (by simp)]
      cases hv : evS S1 m <;> try rfl
      rw [hv] at hm
      simp only
      unfold estoreE
      rw [hm _ (by simp [blkOf])]
    case mapUpdate t m x v =>
      simp only at hm ⊢
      rw [← h m (by simp), ← h x (by simp), ← h v (by simp)]
      cases hv : evS S1 m <;> try rfl
      rw [hv] at hm
      simp only
      unfold mapUpdE
      rw [hm _ (by simp [blkOf])]
    case call c =>
      simp only at hm ⊢
      cases hc : c.callee with
      | invoke r m => rfl
      | value f =>
        simp only [hc] at hm ⊢
        have hf := h f (by simp [Call.operands, hc])
        have ha := map_ev (S1 := S1) (S2 := S2) (l := c.args.toList) (fun x hx => h x (by simp only [Call.operands, hc]; simp; exact .inr (by simpa using hx)))
        rw [← hf, ← ha]
        cases hv : evS S1 f <;> try rfl
        rename_i g caps
        rw [hv] at hm
        simp only at hm ⊢
        have h1 := hm S1.next (by simp)
        rw [(vecTs_congr fun j hj => hm j (by simp [hj])).2, ← hn, h1]
      | builtin b =>
        cases b <;> try rfl
        case len =>
          simp only [hc] at hm ⊢
          cases c.argTypes[0]? with
          | none => rfl
          | some t =>
            cases hx : c.args[0]? with
            | none => rfl
            | some x =>
              simp only [hx] at hm ⊢
              rw [← h x (by simp only [Call.operands, hc]; simp; exact Array.mem_of_getElem? hx)]
              cases hv : evS S1 x <;> try rfl
              rw [hv] at hm
              simp only [blkOf] at hm ⊢
              exact lenV_congr cx hm
        case append =>
          simp only [hc] at hm ⊢
          cases hl : c.args.toList with
          | nil => cases c.argTypes.toList with
            | nil => rfl
            | cons _ l => cases l with
              | nil => rfl
              | cons _ l => cases l <;> rfl
          | cons x l =>
            cases l with
            | nil => cases c.argTypes.toList with
              | nil => rfl
              | cons _ l => cases l with
                | nil => rfl
                | cons _ l => cases l <;> rfl
            | cons y l =>
              cases l with
              | cons _ _ => cases c.argTypes.toList with
                | nil => rfl
                | cons _ l => cases l with
                  | nil => rfl
                  | cons _ l => cases l <;> rfl
              | nil =>
                simp only [hl] at hm ⊢
                have hxm : x ∈ c.args := by rw [← Array.mem_toList_iff, hl]; simp
                have hym : y ∈ c.args := by rw [← Array.mem_toList_iff, hl]; simp
                have ex := h x (by simp only [Call.operands, hc]; simp; exact hxm)
                have ey := h y (by simp only [Call.operands, hc]; simp; exact hym)
                cases c.argTypes.toList with
                | nil => rfl
                | cons t l =>
                  cases l with
                  | nil => rfl
                  | cons t' l =>
                    cases l with
                    | cons _ _ => rfl
                    | nil =>
                      simp only
                      rw [← ex, ← ey, appE_congr cx hn hm]
        case copy =>
          simp only [hc] at hm ⊢
          cases c.argTypes[0]? with
          | none => rfl
          | some t =>
            cases hx : c.args[0]? with
            | none => rfl
            | some x =>
              cases hy : c.args[1]? with
              | none => rfl
              | some y =>
                simp only [hx, hy] at hm ⊢
                rw [← h x (by simp only [Call.operands, hc]; simp; exact Array.mem_of_getElem? hx), ← h y (by simp only [Call.operands, hc]; simp; exact Array.mem_of_getElem? hy)]
                cases hv : evS S1 y
                case sl j =>
                  rw [hv] at hm
                  simp only [blkOf] at hm ⊢
                  exact copyV_congr cx hm
                all_goals (simp only; rw [hv] at hm; exact copyE_congr cx hm)

/-- An operation under its guard: what it does. -/
def opE (cx : Cx) (ops : Array Oper) (S : St) (o : Oper) : T Eff :=
  match o.guard with
  | none => effS cx S o
  | some (j, want) => match (ops[j]?).bind (·.dst) with
    | none => .ret ⟨.raw undef, []⟩
    | some t => match getS S.tmps t with
      | .tt => match want with
        | true => effS cx S o
        | false => .ret ⟨.raw undef, []⟩
      | .ff => match want with
        | true => .ret ⟨.raw undef, []⟩
        | false => effS cx S o
      | .bool b => match want with
        | true => .ite b (effS cx S o) (.ret ⟨.raw undef, []⟩)
        | false => .ite b (.ret ⟨.raw undef, []⟩) (effS cx S o)
      | .raw (.tuple _) => .ret ⟨.raw undef, []⟩
      | _ => .fail "a guard that is no truth"

theorem opE_cases {Γ : Gam} {cx : Cx} {ρ : Env} {ops : Array Oper} {S : St} {a : Act} {w : World} (h : Rel Γ ρ S a w) {o : Oper} {e : Eff} (hr : T.Reach (opE cx ops S o) e) :
    (Region.wanted o (yielded ops a.tmps) = true ∧ T.Reach (effS cx S o) e) ∨ (Region.wanted o (yielded ops a.tmps) = false ∧ e = ⟨.raw undef, []⟩) := by
  unfold opE at hr
  unfold Region.wanted
  split at hr
  · rename_i hg; rw [hg]; exact .inl ⟨rfl, hr⟩
  · rename_i j want hg
    rw [hg]
    simp only [yielded]
    split at hr
    · rename_i hd
      rw [T.reach_ret] at hr
      rw [hd]
      exact .inr ⟨by simp, hr⟩
    · rename_i t hd
      rw [hd]
      simp only [Option.bind_some]
      split at hr
      · rename_i hv
        have := getS_tmps h t true (by rw [hv]; simp [SV.den])
        rw [this]
        split at hr
        · exact .inl ⟨rfl, hr⟩
        · rw [T.reach_ret] at hr; exact .inr ⟨rfl, hr⟩
      · rename_i hv
        have := getS_tmps h t false (by rw [hv]; simp [SV.den])
        rw [this]
        split at hr
        · rw [T.reach_ret] at hr; exact .inr ⟨rfl, hr⟩
        · exact .inl ⟨rfl, hr⟩
      · rename_i b hv
        have := getS_tmps h t b (by rw [hv]; simp [SV.den])
        rw [this]
        split at hr
        · rw [T.reach_ite] at hr
          rcases hr with ⟨rfl, hr⟩ | ⟨rfl, hr⟩
          · exact .inl ⟨rfl, hr⟩
          · rw [T.reach_ret] at hr; exact .inr ⟨rfl, hr⟩
        · rw [T.reach_ite] at hr
          rcases hr with ⟨rfl, hr⟩ | ⟨rfl, hr⟩
          · rw [T.reach_ret] at hr; exact .inr ⟨rfl, hr⟩
          · exact .inl ⟨rfl, hr⟩
      · rename_i vs hv
        rw [T.reach_ret] at hr
        have := getS_tmps_none h t hv
        refine .inr ⟨?_, hr⟩
        split
        · rename_i b hb; exact absurd hb (this b)
        · simp
      · exact (T.reach_fail hr).elim

theorem opE_congr (cx : Cx) (ops : Array Oper) {S1 S2 : St} (o : Oper) (h : ∀ x ∈ o.op.operands, evS S1 x = evS S2 x) (hg : ∀ j want t, o.guard = some (j, want) → (ops[j]?).bind (·.dst) = some t → getS S1.tmps t = getS S2.tmps t)
    (hn : S1.next = S2.next) (hm : ∀ i ∈ touch S1 o, look S1.mem i = look S2.mem i) : opE cx ops S1 o = opE cx ops S2 o := by
  have he := (effS_congr cx o h hn hm).1
  unfold opE
  cases hgu : o.guard with
  | none => exact he
  | some jw =>
    obtain ⟨j, want⟩ := jw
    simp only
    cases hd : (ops[j]?).bind (·.dst) with
    | none => rfl
    | some t =>
      simp only
      rw [hg j want t hgu hd, he]

theorem look_memE (m : Mem) (w : Mem) (j : Nat) : look (memE m w) j = match look w j with
    | some b => some b
    | none => look m j := by
  induction w with
  | nil => rfl
  | cons x r ih =>
    obtain ⟨i, b⟩ := x
    simp only [memE, look_upd, look]
    by_cases h : i = j
    · subst h; simp
    · have : Nat.beq i j = false := beq_no h
      simp only [this, if_neg h]
      exact ih

theorem Eff.on_mem (S : St) (dst : Option Tmp) (e : Eff) : (e.on S dst).mem = memE S.mem e.w := by unfold Eff.on; rw [St.put_mem]
theorem Eff.on_next (S : St) (dst : Option Tmp) (e : Eff) : (e.on S dst).next = S.next := by unfold Eff.on; rw [St.put_next]
theorem Eff.on_tmps (S : St) (dst : Option Tmp) (e : Eff) : (e.on S dst).tmps = match dst with | some d => S.tmps.set d e.v | none => S.tmps := by
  unfold Eff.on; cases dst <;> simp [St.put, setS_eq]

theorem Alike.on {S S' : St} (hs : Alike S S') (dst : Option Tmp) (e : Eff) : Alike (e.on S dst) (e.on S' dst) := by
  refine ⟨?_, fun t => ?_, fun i => by rw [Eff.on_mem, Eff.on_mem, look_memE, look_memE]; split <;> simp [hs.mem], by rw [Eff.on_next, Eff.on_next]; exact hs.next⟩
  · rw [Eff.on_tmps, Eff.on_tmps]; cases dst <;> simp [hs.len]
  · rw [Eff.on_tmps, Eff.on_tmps]
    cases dst with
    | none => exact hs.tmps t
    | some d =>
      simp only [getS_set, hs.len]
      split
      · exact VEq.refl _
      · exact hs.tmps t

def at_ (S : St) (n : Nat) : St := { S with next := n }

theorem Alike.at_ {S S' : St} (h : Alike S S') (n : Nat) : Alike (at_ S n) (at_ S' n) := ⟨h.len, h.tmps, h.mem, rfl⟩

/-! ### Two operations that are apart -/
/-- What an operation of a region may touch, and what it may write: told beforehand. -/
abbrev Foots := Nat → List Nat × List Nat

structure Fits (F : List Nat × List Nat) (S : St) (o : Oper) (e : Eff) : Prop where
  touch : ∀ i ∈ touch S o, i ∈ F.1
  writes : ∀ i b, look e.w i = some b → i ∈ F.2

structure Indep (F F' : List Nat × List Nat) : Prop where
  a : ∀ i ∈ F.2, i ∉ F'.1 ∧ i ∉ F'.2 ∧ i < 1000000
  b : ∀ i ∈ F'.2, i ∉ F.1 ∧ i ∉ F.2 ∧ i < 1000000

theorem Indep.symm {F F' : List Nat × List Nat} (h : Indep F F') : Indep F' F := ⟨h.b, h.a⟩

theorem getS_on {S : St} {dst : Option Tmp} {e : Eff} {t : Nat} (h : ∀ d, dst = some d → d ≠ t) : getS (e.on S dst).tmps t = getS S.tmps t := by
  rw [Eff.on_tmps, getS_eq, getS_eq]
  cases dst with
  | none => rfl
  | some d => simp [List.getD, List.getElem?_set_ne (h d rfl)]

/-- The state that another one reads as, with a slot put back, and another memory. -/
def mixS (A S : St) (dst : Option Tmp) : St := ⟨match dst with
  | some d => A.tmps.set d (getS S.tmps d)
  | none => A.tmps, S.mem, S.next⟩

/-- An operation apart from another one does what it does, whether that has been done or not: A reads as the one state, B as the other one. -/
theorem opE_apart {cx : Cx} {ops : Array Oper} {A S : St} {N : Nat} {oi oj : Oper} {Fj : List Nat × List Nat} (hap : oi.apart ops oj = true)
    (hlook : ∀ i ∈ Fj.1, look A.mem i = look S.mem i) (hglob : ∀ g, look A.mem (gid g) = none ↔ look S.mem (gid g) = none) (ht : ∀ i ∈ touch (at_ A N) oj, i ∈ Fj.1) :
    opE cx ops (at_ (mixS A S oi.dst) N) oj = opE cx ops (at_ A N) oj ∧ touch (at_ (mixS A S oi.dst) N) oj = touch (at_ A N) oj := by
  obtain ⟨h1, h2, h3⟩ := Oper.apart_spec hap
  have hget : ∀ t, (∀ d, oi.dst = some d → d ≠ t) → getS (mixS A S oi.dst).tmps t = getS A.tmps t := by
    intro t h
    unfold mixS
    cases hd : oi.dst with
    | none => rfl
    | some d =>
      simp only [getS_set]
      rw [if_neg (fun hc => h d hd hc.1)]
  have hev : ∀ x ∈ oj.op.operands, evS (at_ A N) x = evS (at_ (mixS A S oi.dst) N) x := by
    intro x hx
    cases x with
    | tmp t =>
      refine (hget t fun d hd e => h1 d hd ?_).symm
      subst e
      exact List.mem_append_left _ (List.mem_filterMap.2 ⟨.tmp d, by simpa using hx, rfl⟩)
    | const v => rfl
    | func f => rfl
    | global g =>
      simp only [evS, at_, mixS]
      have := hglob g
      cases hA : look A.mem (gid g) with
      | none => rw [this.1 hA]
      | some b =>
        cases hS : look S.mem (gid g) with
        | none => rw [this.2 hS] at hA; cases hA
        | some c => rfl
  have hgu : ∀ j want t, oj.guard = some (j, want) → (ops[j]?).bind (·.dst) = some t → getS (at_ A N).tmps t = getS (at_ (mixS A S oi.dst) N).tmps t := by
    intro j want t hg hd
    refine (hget t fun d hdd e => h1 d hdd ?_).symm
    subst e
    simp [Oper.looksAt, hg, hd]
  have hm : ∀ i ∈ touch (at_ A N) oj, look (at_ A N).mem i = look (at_ (mixS A S oi.dst) N).mem i := fun i hi => hlook i (ht i hi)
  exact ⟨(opE_congr cx ops oj hev hgu rfl hm).symm, (effS_congr cx oj hev rfl hm).2.symm⟩

theorem mix_alike {A S S' : St} {dst : Option Tmp} (h : Alike A S') (hlen : S'.tmps.length = S.tmps.length) (ht : ∀ t, (∀ d, dst = some d → d ≠ t) → getS S'.tmps t = getS S.tmps t) : Alike (mixS A S dst) S := by
  refine ⟨?_, fun t => ?_, fun _ => rfl, rfl⟩
  · unfold mixS; cases dst <;> simp [h.len, hlen]
  · unfold mixS
    cases dst with
    | none => rw [← ht t (fun d hd => by cases hd)]; exact h.tmps t
    | some d =>
      simp only [getS_set]
      by_cases hd : d = t
      · subst hd
        split
        · exact VEq.refl _
        · rename_i hl
          have hl : ¬ d < A.tmps.length := fun hc => hl ⟨rfl, hc⟩
          have e1 : getS A.tmps d = .raw undef := by rw [getS_eq]; simp [List.getD, hl]
          have e2 : getS S.tmps d = .raw undef := by rw [getS_eq]; simp [List.getD, show ¬ d < S.tmps.length by rw [← hlen, ← h.len]; exact hl]
          rw [e1, e2]; exact VEq.refl _
      · rw [if_neg (fun hc => hd hc.1), ← ht t (fun d' hd' => by cases hd'; exact hd)]; exact h.tmps t

theorem on_comm {S : St} {oi oj : Oper} {ei ej : Eff} (hd : ∀ d, oi.dst = some d → oj.dst ≠ some d) (hw : ∀ i b j c, look ei.w i = some b → look ej.w j = some c → i ≠ j) :
    Alike (ej.on (ei.on S oi.dst) oj.dst) (ei.on (ej.on S oj.dst) oi.dst) := by
  have heq : (ej.on (ei.on S oi.dst) oj.dst).tmps = (ei.on (ej.on S oj.dst) oi.dst).tmps := by
    rw [Eff.on_tmps, Eff.on_tmps, Eff.on_tmps, Eff.on_tmps]
    cases hi : oi.dst with
    | none => cases oj.dst <;> rfl
    | some d =>
      cases hj : oj.dst with
      | none => rfl
      | some d' =>
        have : d ≠ d' := fun e => hd d hi (by rw [hj, e])
        simp only
        exact List.set_comm _ _ this
  refine ⟨by rw [heq], fun t => by rw [heq]; exact VEq.refl _, fun k => ?_, by simp only [Eff.on_next]⟩
  · simp only [Eff.on_mem, look_memE]
    cases hi : look ei.w k with
    | none => cases look ej.w k <;> rfl
    | some b =>
      cases hj : look ej.w k with
      | none => rfl
      | some c => exact absurd rfl (hw k b k c hi hj)

/-! ### A map's number, and an entry that is made: a pair that may come in either order -/
theorem mget_madd (l l' : List Int) (es : List (List Int × Int)) : mget l' (madd l es) = mget l' es := by
  unfold madd
  cases mhas l es with
  | true => rfl
  | false =>
    simp only
    induction es with
    | nil => simp only [List.nil_append, mget]; split <;> rfl
    | cons p es ih => obtain ⟨k, x⟩ := p; simp only [List.cons_append, mget]; split <;> simp_all

/-- Memories that are the same, but for maps to which keys were added, with 0. -/
def SoftEq (m m' : Mem) : Prop := ∀ b, look m b = look m' b ∨ ∃ agg sz k vk es l, look m b = some (.mp agg sz k vk es) ∧ look m' b = some (.mp agg sz k vk (madd l es))

theorem SoftEq.vecT {S1 S2 : St} (h : SoftEq S1.mem S2.mem) (i : Nat) : vecT S1 i = vecT S2 i := by
  unfold Sx.vecT
  rcases h i with h | ⟨agg, sz, k, vk, es, l, h1, h2⟩
  · rw [h]
  · rw [h1, h2]

theorem SoftEq.blkOf {S1 S2 : St} (h : SoftEq S1.mem S2.mem) (x : SV) : blkOf S1 x = blkOf S2 x := by
  cases x <;> simp only [Sx.blkOf]
  · exact h.vecT _
  · exact h.vecT _

def isRead (o : Oper) : Bool := match o.op with
  | .lookup _ _ _ ok => match ok with
    | false => true
    | true => false
  | _ => false
def isEntry (o : Oper) : Bool := match o.op with
  | .mapEntry _ _ _ => true
  | _ => false

theorem effS_soft (cx : Cx) {S1 S2 : St} {o : Oper} (hr : isRead o = true) (h : ∀ x ∈ o.op.operands, evS S1 x = evS S2 x) (hs : SoftEq S1.mem S2.mem) :
    effS cx S1 o = effS cx S2 o ∧ touch S1 o = touch S2 o := by
  have hp := pureS_congr cx o h
  obtain ⟨dst, op, type, pos, after, guard⟩ := o
  unfold isRead at hr
  split at hr
  · rename_i t m x ok hop
    split at hr
    · simp only at hop; subst hop
      simp only [Op.operands] at h
      refine ⟨?_, ?_⟩
      · unfold effS
        rw [hp]
        cases pureS cx ⟨dst, .lookup t m x false, type, pos, after, guard⟩ (evS S2) with
        | some t => rfl
        | none =>
          simp only
          rw [← h m (by simp), ← h x (by simp)]
          cases evS S1 m <;> try rfl
          rename_i i
          simp only
          unfold lookupE
          rcases hs i with hs | ⟨agg, sz, k, vk, es, l, h1, h2⟩
          · rw [hs]
          · rw [h1, h2]
            cases mapTy cx.tab t with
            | none => rfl
            | some mt =>
              simp only
              cases mtEq mt agg sz k vk with
              | false => rfl
              | true => cases keyL mt (evS S1 x) with
                | none => rfl
                | some l' => simp only [mget_madd]
      · simp only [touch]
        rw [← h m (by simp), hs.blkOf]
    · cases hr
  · cases hr

theorem opE_soft (cx : Cx) (ops : Array Oper) {S1 S2 : St} {o : Oper} (hr : isRead o = true) (h : ∀ x ∈ o.op.operands, evS S1 x = evS S2 x) (hg : ∀ j want t, o.guard = some (j, want) → (ops[j]?).bind (·.dst) = some t → getS S1.tmps t = getS S2.tmps t)
    (hs : SoftEq S1.mem S2.mem) : opE cx ops S1 o = opE cx ops S2 o := by
  have he := (effS_soft cx hr h hs).1
  unfold opE
  cases hgu : o.guard with
  | none => exact he
  | some jw =>
    obtain ⟨j, want⟩ := jw
    simp only
    cases hd : (ops[j]?).bind (·.dst) with
    | none => rfl
    | some t =>
      simp only
      rw [hg j want t hgu hd, he]

theorem opE_apart_soft {cx : Cx} {ops : Array Oper} {A S : St} {N : Nat} {oi oj : Oper} (hap : oi.apart ops oj = true) (hr : isRead oj = true)
    (hs : SoftEq A.mem S.mem) (hglob : ∀ g, look A.mem (gid g) = none ↔ look S.mem (gid g) = none) :
    opE cx ops (at_ (mixS A S oi.dst) N) oj = opE cx ops (at_ A N) oj ∧ touch (at_ (mixS A S oi.dst) N) oj = touch (at_ A N) oj := by
  obtain ⟨h1, h2, h3⟩ := Oper.apart_spec hap
  have hget : ∀ t, (∀ d, oi.dst = some d → d ≠ t) → getS (mixS A S oi.dst).tmps t = getS A.tmps t := by
    intro t h
    unfold mixS
    cases hd : oi.dst with
    | none => rfl
    | some d =>
      simp only [getS_set]
      rw [if_neg (fun hc => h d hd hc.1)]
  have hev : ∀ x ∈ oj.op.operands, evS (at_ A N) x = evS (at_ (mixS A S oi.dst) N) x := by
    intro x hx
    cases x with
    | tmp t =>
      refine (hget t fun d hd e => h1 d hd ?_).symm
      subst e
      exact List.mem_append_left _ (List.mem_filterMap.2 ⟨.tmp d, by simpa using hx, rfl⟩)
    | const v => rfl
    | func f => rfl
    | global g =>
      simp only [evS, at_, mixS]
      have := hglob g
      cases hA : look A.mem (gid g) with
      | none => rw [this.1 hA]
      | some b =>
        cases hS : look S.mem (gid g) with
        | none => rw [this.2 hS] at hA; cases hA
        | some c => rfl
  have hgu : ∀ j want t, oj.guard = some (j, want) → (ops[j]?).bind (·.dst) = some t → getS (at_ A N).tmps t = getS (at_ (mixS A S oi.dst) N).tmps t := by
    intro j want t hg hd
    refine (hget t fun d hdd e => h1 d hdd ?_).symm
    subst e
    simp [Oper.looksAt, hg, hd]
  exact ⟨(opE_soft cx ops hr hev hgu hs).symm, (effS_soft cx hr hev hs).2.symm⟩

theorem entry_writes {cx : Cx} {ops : Array Oper} {B : St} {o : Oper} {e : Eff} (ho : isEntry o = true) (hr : T.Reach (opE cx ops B o) e) {b : Nat} {blk : Blk} (hb : look e.w b = some blk) :
    ∃ agg sz k vk es l, look B.mem b = some (.mp agg sz k vk es) ∧ blk = .mp agg sz k vk (madd l es) := by
  have heff : ∀ {e : Eff}, T.Reach (effS cx B o) e → look e.w b = some blk → ∃ agg sz k vk es l, look B.mem b = some (.mp agg sz k vk es) ∧ blk = .mp agg sz k vk (madd l es) := by
    intro e hr hq
    unfold effS at hr
    cases hp : pureS cx o (evS B) with
    | some t =>
      rw [hp] at hr
      simp only [T.reach_bind, T.reach_ret] at hr
      obtain ⟨v, -, rfl⟩ := hr
      simp [look] at hq
    | none =>
      rw [hp] at hr
      unfold isEntry at ho
      split at ho
      · rename_i t m x hop
        simp only [hop] at hr
        split at hr
        · rename_i i hv
          unfold entryE at hr
          split at hr
          · rename_i mt agg sz k vk es hmt hl
            split at hr
            · rename_i l h1 h2
              rw [T.reach_ret] at hr
              subst hr
              simp only [look] at hq
              split at hq
              · rename_i hib
                have := Nat.eq_of_beq_eq_true hib
                subst this
                cases hq
                exact ⟨agg, sz, k, vk, es, l, hl, rfl⟩
              · cases hq
            · exact (T.reach_fail hr).elim
          · exact (T.reach_fail hr).elim
        · exact (T.reach_fail hr).elim
      · cases ho
  unfold opE at hr
  split at hr
  · exact heff hr hb
  · split at hr
    · rw [T.reach_ret] at hr; subst hr; cases hb
    · split at hr
      · split at hr
        · exact heff hr hb
        · rw [T.reach_ret] at hr; subst hr; cases hb
      · split at hr
        · rw [T.reach_ret] at hr; subst hr; cases hb
        · exact heff hr hb
      · split at hr
        · rw [T.reach_ite] at hr
          rcases hr with ⟨-, hr⟩ | ⟨-, hr⟩
          · exact heff hr hb
          · rw [T.reach_ret] at hr; subst hr; cases hb
        · rw [T.reach_ite] at hr
          rcases hr with ⟨-, hr⟩ | ⟨-, hr⟩
          · rw [T.reach_ret] at hr; subst hr; cases hb
          · exact heff hr hb
      · rw [T.reach_ret] at hr; subst hr; cases hb
      · exact (T.reach_fail hr).elim
end Go.Sx

/- The symbolic layer, part M: whatever order a region's edges allow. -/
namespace Go.Sx
open Go.RowKit (Below)

section
variable {P : Program} {Γ : Gam} {cx : Cx} {ops : Array Oper} {N : Nat} {F : Foots}

def RunAny (cx : Cx) (ops : Array Oper) (N : Nat) (F : Foots) : Nat → Array Bool → St → (St → Prop) → Prop
  | 0, listed, S, Q => Region.ready .any ops listed = [] ∧ Q S
  | f + 1, listed, S, Q => (Region.ready .any ops listed = [] → Q S) ∧
    ∀ i ∈ Region.ready .any ops listed, ∃ o e A, ops[i]? = some o ∧ Alike A S ∧ T.Reach (opE cx ops (at_ A (N + i)) o) e ∧ Fits (F i) (at_ A (N + i)) o e ∧ RunAny cx ops N F f (listed.setIfInBounds i true) (e.on S o.dst) Q

theorem RunAny.alike {Q : St → Prop} (hQ : ∀ S S', Alike S S' → Q S → Q S') : ∀ (f : Nat) (listed : Array Bool) (S S' : St), Alike S S' → RunAny cx ops N F f listed S Q → RunAny cx ops N F f listed S' Q
  | 0, _, _, _, hs, h => ⟨h.1, hQ _ _ hs h.2⟩
  | f + 1, _, _, _, hs, h => ⟨fun hr => hQ _ _ hs (h.1 hr), fun i hi => by
      obtain ⟨o, e, A, h1, hA, h2, h3, h4⟩ := h.2 i hi
      exact ⟨o, e, A, h1, hA.trans hs, h2, h3, RunAny.alike hQ f _ _ _ (hs.on o.dst e) h4⟩⟩

/-- Operation j waits for operation i, at once or through others. -/
inductive Waits (ops : Array Oper) : Nat → Nat → Prop where
  | one {j o e} : ops[j]? = some o → e ∈ o.after → Region.binds .any e = true → Waits ops j e.on
  | more {j o e i} : ops[j]? = some o → e ∈ o.after → Region.binds .any e = true → Waits ops e.on i → Waits ops j i

/-- Whoever is listed, those that it waits for are. -/
def Shut (ops : Array Oper) (listed : Array Bool) : Prop := ∀ j o, ops[j]? = some o → listed.getD j false = true → ∀ e ∈ o.after, Region.binds .any e = true → listed.getD e.on false = true

theorem Shut.waits {listed : Array Bool} (h : Shut ops listed) {j i : Nat} (hw : Waits ops j i) : listed.getD j false = true → listed.getD i false = true := by
  induction hw with
  | one ho he hb => exact fun hj => h _ _ ho hj _ he hb
  | more ho he hb _ ih => exact fun hj => ih (h _ _ ho hj _ he hb)

theorem Shut.ready {listed : Array Bool} (h : Shut ops listed) {j i : Nat} (hj : j ∈ Region.ready .any ops listed) (hw : Waits ops j i) : listed.getD i false = true := by
  obtain ⟨-, o, ho, hall⟩ := mem_ready.1 hj
  cases hw with
  | one ho' he hb => rw [ho] at ho'; cases ho'; exact hall _ he hb
  | more ho' he hb hw' => rw [ho] at ho'; cases ho'; exact h.waits hw' (hall _ he hb)

theorem Shut.set {listed : Array Bool} (h : Shut ops listed) {j : Nat} (hj : j ∈ Region.ready .any ops listed) : Shut ops (listed.setIfInBounds j true) := by
  intro k o ho hk e he hb
  by_cases hkj : k = j
  · subst hkj
    obtain ⟨-, o', ho', hall⟩ := mem_ready.1 hj
    rw [ho] at ho'; cases ho'
    exact getD_set_true (hall e he hb)
  · rw [getD_set_ne false (Ne.symm hkj)] at hk
    exact getD_set_true (h k o ho hk e he hb)

theorem ready_unlisted {listed : Array Bool} {i : Nat} (h : i ∈ Region.ready .any ops listed) : ¬ listed.getD i false = true := by
  have h0 := (mem_ready.1 h).1
  rcases Nat.lt_or_ge i listed.size with h' | h'
  · simp [h'] at h0 ⊢; exact h0
  · simp [Array.getElem?_eq_none h'] at h0

/-- Two operations that may come in either order: apart from each other, or the one reads a map's number where the other makes an entry. -/
def Free (oi oj : Oper) (F F' : List Nat × List Nat) : Prop := Indep F F' ∨ (isRead oi = true ∧ isEntry oj = true ∧ F.2 = [] ∧ ∀ b ∈ F'.2, b < 1000000)

/-- **An operation that may come up now may be taken first.** -/
theorem RunAny.first {Q : St → Prop} (hQ : ∀ S S', Alike S S' → Q S → Q S') {i : Nat} {oi : Oper} {ei : Eff} (hi : ops[i]? = some oi) : ∀ (f : Nat) (listed : Array Bool) (S A : St), Shut ops listed →
    (∀ j oj, ops[j]? = some oj → j ≠ i → listed.getD j true = false → ¬ Waits ops j i → oi.apart ops oj = true ∧ Free oi oj (F i) (F j)) →
    i ∈ Region.ready .any ops listed → Alike A S → T.Reach (opE cx ops (at_ A (N + i)) oi) ei → Fits (F i) (at_ A (N + i)) oi ei →
    RunAny cx ops N F f (listed.setIfInBounds i true) (ei.on S oi.dst) Q → RunAny cx ops N F (f + 1) listed S Q := by
  intro f
  induction f with
  | zero =>
    intro listed S A _ _ hr hA hy hfit H
    refine ⟨fun h => (by rw [h] at hr; cases hr), fun j hj => ?_⟩
    by_cases hji : j = i
    · subst hji; exact ⟨oi, ei, A, hi, hA, hy, hfit, H⟩
    · have := ready_mono hj hji
      rw [H.1] at this
      cases this
  | succ f ih =>
    intro listed S A hshut hfree hr hA hy hfit H
    refine ⟨fun h => (by rw [h] at hr; cases hr), fun j hj => ?_⟩
    by_cases hji : j = i
    · subst hji; exact ⟨oi, ei, A, hi, hA, hy, hfit, H⟩
    · obtain ⟨oj, ej, B, hoj, hB, hyj, hfj, h1⟩ := H.2 j (ready_mono hj hji)
      obtain ⟨hjun, -⟩ := mem_ready.1 hj
      have hnw : ¬ Waits ops j i := fun hw => ready_unlisted hr (hshut.ready hj hw)
      obtain ⟨hap, hin⟩ := hfree j oj hoj hji hjun hnw
      have hap' : oj.apart ops oi = true := by
        have := hap
        simp only [Oper.apart, Bool.and_eq_true] at this ⊢
        obtain ⟨a, b⟩ := this
        constructor
        · cases hdj : oj.dst with
          | none => rfl
          | some d =>
            rw [hdj] at b
            simp only [Bool.and_eq_true]
            refine ⟨b, ?_⟩
            cases hdi : oi.dst with
            | none => rfl
            | some d' =>
              rw [hdi] at a
              simp only [Bool.and_eq_true, hdj] at a
              have := a.2
              simp only [bne_iff_ne, ne_eq, Option.some.injEq] at this ⊢
              exact fun e => this e.symm
        · cases hdi : oi.dst with
          | none => rfl
          | some d => rw [hdi] at a; simp only [Bool.and_eq_true] at a; exact a.1
      -- what the one writes, seen by the other
      have hlen : ∀ (e : Eff) (d : Option Tmp), (e.on S d).tmps.length = S.tmps.length := fun e d => by rw [Eff.on_tmps]; cases d <;> simp
      have hglob : ∀ {F : List Nat × List Nat} {e : Eff} {d : Option Tmp}, (∀ b ∈ F.2, b < 1000000) → (∀ i b, look e.w i = some b → i ∈ F.2) → ∀ g, look (e.on S d).mem (gid g) = look S.mem (gid g) := by
        intro F e d hin hw g
        rw [Eff.on_mem, look_memE]
        cases he : look e.w (gid g) with
        | none => rfl
        | some b =>
          have := hin _ (hw _ b he)
          unfold gid at this
          omega
      have hlook : ∀ {F F' : List Nat × List Nat} {e : Eff} {d : Option Tmp}, (∀ b ∈ F.2, b ∉ F'.1) → (∀ i b, look e.w i = some b → i ∈ F.2) → ∀ i ∈ F'.1, look (e.on S d).mem i = look S.mem i := by
        intro F F' e d hin hw i hi
        rw [Eff.on_mem, look_memE]
        cases he : look e.w i with
        | none => rfl
        | some b => exact absurd hi (hin i (hw i b he))
      have f1 : (∀ b ∈ (F i).2, b < 1000000) ∧ (∀ b ∈ (F j).2, b < 1000000) ∧ (∀ b ∈ (F i).2, b ∉ (F j).1) ∧ ∀ b ∈ (F i).2, b ∉ (F j).2 := by
        rcases hin with hin | ⟨-, -, h0, h1⟩
        · exact ⟨fun b hb => (hin.a b hb).2.2, fun b hb => (hin.b b hb).2.2, fun b hb => (hin.a b hb).1, fun b hb => (hin.a b hb).2.1⟩
        · rw [h0]; exact ⟨fun b hb => (by cases hb), h1, fun b hb => (by cases hb), fun b hb => (by cases hb)⟩
      -- j does the same without i
      obtain ⟨q1, q2⟩ := opE_apart (cx := cx) (A := B) (S := S) (N := N + j) hap (fun i hi => by rw [hB.mem]; exact hlook f1.2.2.1 hfit.writes i hi) (fun g => by rw [hB.mem, hglob f1.1 hfit.writes g]) hfj.touch
      have hyj' : T.Reach (opE cx ops (at_ (mixS B S oi.dst) (N + j)) oj) ej := by rw [q1]; exact hyj
      have hfj' : Fits (F j) (at_ (mixS B S oi.dst) (N + j)) oj ej := ⟨by rw [q2]; exact hfj.touch, hfj.writes⟩
      have hBS : Alike (mixS B S oi.dst) S := mix_alike hB (hlen ei oi.dst) fun t ht => getS_on fun d hd => ht d hd
      -- i does the same behind j
      have hij : opE cx ops (at_ (mixS A (ej.on S oj.dst) oj.dst) (N + i)) oi = opE cx ops (at_ A (N + i)) oi ∧ touch (at_ (mixS A (ej.on S oj.dst) oj.dst) (N + i)) oi = touch (at_ A (N + i)) oi := by
        have hg2 : ∀ g, look A.mem (gid g) = none ↔ look (ej.on S oj.dst).mem (gid g) = none := fun g => by rw [hA.mem, hglob f1.2.1 hfj.writes g]
        rcases hin with hin | ⟨hre, hen, h0, h1⟩
        · exact opE_apart (cx := cx) (A := A) (S := ej.on S oj.dst) (N := N + i) hap' (fun i hi => by rw [hA.mem]; exact (hlook (fun b hb => (hin.b b hb).1) hfj.writes i hi).symm) hg2 hfit.touch
        · refine opE_apart_soft hap' hre (fun b => ?_) hg2
          rw [hA.mem, Eff.on_mem, look_memE]
          cases he : look ej.w b with
          | none => exact .inl rfl
          | some blk =>
            obtain ⟨agg, sz, k, vk, es, l, e1, e2⟩ := entry_writes hen hyj he
            refine .inr ⟨agg, sz, k, vk, es, l, ?_, by rw [e2]⟩
            have e1 : look B.mem b = some (.mp agg sz k vk es) := e1
            rw [hB.mem, Eff.on_mem, look_memE] at e1
            cases hw : look ei.w b with
            | none => rw [hw] at e1; exact e1
            | some c =>
              have := hfit.writes b c hw
              rw [h0] at this; cases this
      obtain ⟨r1, r2⟩ := hij
      have hAS : Alike (mixS A (ej.on S oj.dst) oj.dst) (ej.on S oj.dst) := mix_alike hA (hlen ej oj.dst).symm fun t ht => (getS_on fun d hd => ht d hd).symm
      refine ⟨oj, ej, mixS B S oi.dst, hoj, hBS, hyj', hfj', ih (listed.setIfInBounds j true) (ej.on S oj.dst) (mixS A (ej.on S oj.dst) oj.dst) (hshut.set hj) ?_ (ready_mono hr (Ne.symm hji)) hAS (by rw [r1]; exact hy) ⟨by rw [r2]; exact hfit.touch, hfit.writes⟩ ?_⟩
      · intro k ok hk hki hun hno
        refine hfree k ok hk hki ?_ hno
        by_cases hjk : j = k
        · subst hjk; exact hjun
        · rw [getD_set_ne true hjk] at hun; exact hun
      · rw [Array.setIfInBounds_comm _ _ hji]
        refine RunAny.alike hQ f _ _ _ (on_comm (Oper.apart_spec hap).2.1 ?_) h1
        intro k b l c hk hl e
        subst e
        exact f1.2.2.2 k (hfit.writes k b hk) (hfj.writes k c hl)

/-- All orders are the world's. -/
theorem RunAny.sound (hc : CxOk P Γ.G cx) (hg : GlobOk Γ) (h0 : Γ.G Γ.w0) (hN : Γ.n0 ≤ N) {Q : St → Prop} {Q' : Exit → Act → World → Prop} (hQ : ∀ ρ S a w, Rel Γ ρ S a w → Q S → Q' .normal a w) : ∀ (f : Nat) (listed : Array Bool) (ρ : Env) (S : St) (a : Act) (w : World),
    Γ.n0 ≤ S.next → Rel Γ ρ S a w → RunAny cx ops N F f listed S Q → wpAny P .any ops Q' f listed a w
  | 0, _, ρ, _, _, _, _, hrel, h => ⟨h.1, hQ ρ _ _ _ hrel h.2⟩
  | f + 1, listed, ρ, S, a, w, hSn, hrel, h => ⟨fun hr => hQ ρ _ _ _ hrel (h.1 hr), fun i hi => by
      obtain ⟨o, e, A, h1, hA, h2, h3, h4⟩ := h.2 i hi
      have hrel' : Rel Γ ρ (at_ A (N + i)) a w := (hA.symm.rel hrel).next (by show Γ.n0 ≤ N + i; omega)
      unfold wpOp
      rw [h1]
      simp only
      rcases opE_cases hrel' h2 with ⟨hw, he⟩ | ⟨hw, rfl⟩
      · rw [if_pos hw]
        refine .inl (effS_sound hc hg h0 hrel' he (n' := S.next) hSn fun ρ' a' w' hr' => ?_)
        have hon : Alike ({ e.on (at_ A (N + i)) o.dst with next := S.next } : St) (e.on S o.dst) := by
          have := (hA.at_ S.next).on o.dst e
          refine ⟨?_, fun t => ?_, fun k => ?_, by rw [Eff.on_next]⟩
          · have := this.len; rw [Eff.on_tmps] at this ⊢; exact this
          · have := this.tmps t; rw [Eff.on_tmps] at this ⊢; exact this
          · have := this.mem k; rw [Eff.on_mem] at this ⊢; exact this
        have hr' := hon.rel hr'
        exact RunAny.sound hc hg h0 hN hQ f _ ρ' _ a' w' (by rw [Eff.on_next]; exact hSn) hr' h4
      · rw [if_neg (by rw [hw]; simp)]
        have := hrel.put o.dst (v := .raw undef) (by simp only [wf]) (by simp only [SV.ids])
        simp only [SV.den] at this
        exact RunAny.sound hc hg h0 hN hQ f _ ρ _ _ w (by rw [St.put_next]; exact hSn) this h4⟩
end

/-! ### The run in the text's order, and the check -/
def keysM : Mem → List Nat
  | [] => []
  | (i, _) :: r => i :: keysM r
theorem keysM_mem : ∀ {w : Mem} {i : Nat} {b : Blk}, look w i = some b → i ∈ keysM w
  | [], _, _, h => by cases h
  | (j, c) :: r, i, b, h => by
    simp only [look] at h
    split at h
    · rename_i hj
      have := Nat.eq_of_beq_eq_true hj
      subst this
      simp [keysM]
    · simp [keysM, keysM_mem h]
def lexE (cx : Cx) (ops : Array Oper) (N : Nat) : List Oper → Nat → St → T (St × List (List Nat × List Nat))
  | [], _, S => .ret (S, [])
  | o :: rest, k, S0 => (refS ops S0 o).bind fun S => (opE cx ops (at_ S (N + k)) o).bind fun e => (lexE cx ops N rest (k + 1) (e.on S o.dst)).bind fun r =>
    .ret (r.1, (touch (at_ S (N + k)) o, keysM e.w) :: r.2)

def memN (x : Nat) : List Nat → Bool
  | [] => false
  | y :: l => match Nat.beq y x with
    | true => true
    | false => memN x l

theorem memN_iff {x : Nat} {l : List Nat} : memN x l = true ↔ x ∈ l := by
  induction l with
  | nil => simp [memN]
  | cons y l ih =>
    simp only [memN]
    split
    · rename_i h; have := Nat.eq_of_beq_eq_true h; simp [this]
    · rename_i h
      have : ¬ y = x := fun e => by rw [e, Nat.beq_refl] at h; cases h
      simp [ih, Ne.symm this]

def allN (f : Nat → Bool) : List Nat → Bool
  | [] => true
  | x :: l => match f x with
    | true => allN f l
    | false => false

theorem allN_iff {f : Nat → Bool} {l : List Nat} : allN f l = true ↔ ∀ x ∈ l, f x = true := by
  induction l with
  | nil => simp [allN]
  | cons x l ih =>
    simp only [allN]
    split
    · rename_i h; simp [ih, h]
    · rename_i h; simp [h]

def indepB (F F' : List Nat × List Nat) : Bool :=
  allN (fun i => !(memN i F'.1) && !(memN i F'.2) && Nat.blt i 1000000) F.2 && allN (fun i => !(memN i F.1) && !(memN i F.2) && Nat.blt i 1000000) F'.2

theorem indepB_spec {F F' : List Nat × List Nat} (h : indepB F F' = true) : Indep F F' := by
  simp only [indepB, Bool.and_eq_true, allN_iff, Bool.not_eq_true'] at h
  have hm : ∀ {x : Nat} {l : List Nat}, memN x l = false → x ∉ l := fun h hm => by rw [memN_iff.2 hm] at h; cases h
  exact ⟨fun i hi => ⟨hm (h.1 i hi).1.1, hm (h.1 i hi).1.2, Nat.le_of_ble_eq_true (h.1 i hi).2⟩, fun i hi => ⟨hm (h.2 i hi).1.1, hm (h.2 i hi).1.2, Nat.le_of_ble_eq_true (h.2 i hi).2⟩⟩

def freeB (oi oj : Oper) (F F' : List Nat × List Nat) : Bool := match indepB F F' with
  | true => true
  | false => match isRead oi, isEntry oj, F.2 with
    | true, true, [] => allN (fun b => Nat.blt b 1000000) F'.2
    | _, _, _ => false

theorem freeB_spec {oi oj : Oper} {F F' : List Nat × List Nat} (h : freeB oi oj F F' = true) : Free oi oj F F' := by
  unfold freeB at h
  split at h
  · rename_i hi; exact .inl (indepB_spec hi)
  · split at h
    · rename_i h1 h2 h3
      exact .inr ⟨h1, h2, h3, fun b hb => Nat.le_of_ble_eq_true (allN_iff.1 h b hb)⟩
    · cases h

/-- Of each operation the numbers of all those that it waits for: told, and checked. -/
def addN (x : Nat) (s : List Nat) : List Nat := match memN x s with
  | true => s
  | false => x :: s

def joinN : List Nat → List Nat → List Nat
  | [], s => s
  | x :: l, s => joinN l (addN x s)

def waitsL (ops : Array Oper) : List (List Nat) :=
  ops.toList.foldl (init := []) fun acc o => acc ++ [o.after.toList.foldl (init := []) fun s e => match Region.binds .any e with
    | true => addN e.on (joinN (acc.getD e.on []) s)
    | false => s]

def waitsOk (ops : List Oper) (W : List (List Nat)) : Bool :=
  ops.zipIdx.all fun p => (p.1.after.toList.all fun e => !(Region.binds .any e) || Nat.blt e.on p.2) &&
    allN (fun x => p.1.after.toList.any fun e => Region.binds .any e && (Nat.beq e.on x || memN x (W.getD e.on []))) (W.getD p.2 [])

/-- Pairs: the one waits for the other, or they are apart. -/
def pairOk (ops : Array Oper) (W : List (List Nat)) (i : Nat) (oi : Oper) (Fi : List Nat × List Nat) : List Oper → List (List Nat × List Nat) → Nat → Bool
  | oj :: os, Fj :: fs, j => match memN i (W.getD j []) with
    | true => pairOk ops W i oi Fi os fs (j + 1)
    | false => match oi.apart ops oj, freeB oi oj Fi Fj with
      | true, true => pairOk ops W i oi Fi os fs (j + 1)
      | _, _ => false
  | [], _, _ => true
  | _, [], _ => false

def pairsOk (ops : Array Oper) (W : List (List Nat)) : List Oper → List (List Nat × List Nat) → Nat → Bool
  | oi :: os, Fi :: fs, i => match pairOk ops W i oi Fi os fs (i + 1) with
    | true => pairsOk ops W os fs (i + 1)
    | false => false
  | [], _, _ => true
  | _, [], _ => false

def drawS (cx : Cx) (ops : Array Oper) (S : St) : T St :=
  (lexE cx ops S.next ops.toList 0 S).bind fun r => match waitsOk ops.toList (waitsL ops), pairsOk ops (waitsL ops) ops.toList r.2 0 with
    | true, true => .ret { r.1 with next := S.next + ops.size }
    | _, _ => .fail "a region whose order shows"

section
variable {P : Program} {Γ : Gam} {cx : Cx} {ops : Array Oper} {N : Nat}

theorem waitsOk_at {W : List (List Nat)} (h : waitsOk ops.toList W = true) {j : Nat} {o : Oper} (ho : ops[j]? = some o) :
    (∀ e ∈ o.after, Region.binds .any e = true → e.on < j) ∧ ∀ x ∈ W.getD j [], ∃ e ∈ o.after, Region.binds .any e = true ∧ (e.on = x ∨ x ∈ W.getD e.on []) := by
  simp only [waitsOk, List.all_eq_true] at h
  have h1 := h (o, j) (by
    rw [List.mem_iff_getElem?]
    exact ⟨j, by simp [ho]⟩)
  simp only [Bool.and_eq_true, List.all_eq_true, allN_iff, List.any_eq_true] at h1
  refine ⟨fun e he hb => ?_, fun x hx => ?_⟩
  · have := h1.1 e (by simpa using he)
    simp only [hb, Bool.not_true, Bool.false_or] at this
    exact Nat.le_of_ble_eq_true this
  · obtain ⟨e, he, h2⟩ := h1.2 x hx
    simp only [Bool.or_eq_true, memN_iff] at h2
    refine ⟨e, by simpa using he, h2.1, h2.2.imp (fun h => Nat.eq_of_beq_eq_true h) id⟩

theorem waits_lt {W : List (List Nat)} (h : waitsOk ops.toList W = true) {j i : Nat} (hw : Waits ops j i) : i < j := by
  induction hw with
  | one ho he hb => exact (waitsOk_at h ho).1 _ he hb
  | more ho he hb _ ih => have := (waitsOk_at h ho).1 _ he hb; omega

theorem waits_of_mem {W : List (List Nat)} (h : waitsOk ops.toList W = true) : ∀ (j : Nat) (o : Oper) (i : Nat), ops[j]? = some o → i ∈ W.getD j [] → Waits ops j i := by
  intro j
  induction j using Nat.strongRecOn with
  | _ j ih =>
    intro o i ho hi
    obtain ⟨h1, h2⟩ := waitsOk_at h ho
    obtain ⟨e, he, hb, hx⟩ := h2 i hi
    rcases hx with rfl | hx
    · exact .one ho he hb
    · have hlt := h1 e he hb
      have hj := (Array.getElem?_eq_some_iff.1 ho).1
      obtain ⟨o', ho'⟩ : ∃ o', ops[e.on]? = some o' := ⟨ops[e.on]'(by omega), by simp [show e.on < ops.size by omega]⟩
      exact .more ho he hb (ih e.on hlt o' i ho' hx)

theorem pairOk_spec {W : List (List Nat)} {i : Nat} {oi : Oper} {Fi : List Nat × List Nat} : ∀ (os : List Oper) (fs : List (List Nat × List Nat)) (j : Nat), pairOk ops W i oi Fi os fs j = true →
    ∀ k ok, os[k]? = some ok → i ∈ W.getD (j + k) [] ∨ ∃ Fk, fs[k]? = some Fk ∧ oi.apart ops ok = true ∧ Free oi ok Fi Fk
  | [], _, _, _, k, ok, hk => by simp at hk
  | oj :: os, [], j, h, k, ok, hk => by simp [pairOk] at h
  | oj :: os, Fj :: fs, j, h, k, ok, hk => by
    simp only [pairOk] at h
    split at h
    · rename_i hm
      cases k with
      | zero => exact .inl (memN_iff.1 hm)
      | succ k =>
        have := pairOk_spec os fs (j + 1) h k ok (by simpa using hk)
        rw [show j + 1 + k = j + (k + 1) from by omega] at this
        simpa using this
    · split at h
      · rename_i ha hi
        cases k with
        | zero => simp at hk; subst hk; exact .inr ⟨Fj, rfl, ha, freeB_spec hi⟩
        | succ k =>
          have := pairOk_spec os fs (j + 1) h k ok (by simpa using hk)
          rw [show j + 1 + k = j + (k + 1) from by omega] at this
          simpa using this
      · cases h

theorem lex_runAny {F : Foots} (hW : waitsOk ops.toList (waitsL ops) = true) {Q : St → Prop} (hQ : ∀ S S', Alike S S' → Q S → Q S') : ∀ (l : List Oper) (k : Nat) (listed : Array Bool) (S S' : St) (fs : List (List Nat × List Nat)),
    (∀ j, l[j]? = ops[k + j]?) → (∀ j, listed.getD j false = true ↔ j < k ∧ j < ops.size) → listed.size = ops.size → (∀ j f, fs[j]? = some f → F (k + j) = f) → T.Reach (lexE cx ops N l k S) (S', fs) → pairsOk ops (waitsL ops) l fs k = true → Q S' →
    RunAny cx ops N F l.length listed S Q
  | [], k, listed, S, S', fs, hl, hls, hsz, hF, hr, hp, hq => by
    simp only [lexE, T.reach_ret, Prod.mk.injEq] at hr
    obtain ⟨rfl, -⟩ := hr
    refine ⟨?_, hq⟩
    rw [List.eq_nil_iff_forall_not_mem]
    intro i hi
    obtain ⟨h0, o, ho, -⟩ := mem_ready.1 hi
    have hlt : i < ops.size := (Array.getElem?_eq_some_iff.1 ho).1
    have : i < k := by
      rcases Nat.lt_or_ge i k with h | h
      · exact h
      · have := hl (i - k)
        rw [show k + (i - k) = i from by omega, ho] at this
        simp at this
    exact ready_unlisted hi ((hls i).2 ⟨this, hlt⟩)
  | o :: l, k, listed, S, S', fs, hl, hls, hsz, hF, hr, hp, hq => by
    simp only [lexE, T.reach_bind, T.reach_ret, Prod.mk.injEq] at hr
    obtain ⟨A, hA0, e, he, ⟨S1, fs1⟩, h1, hS, rfl⟩ := hr
    have hA := refS_alike hA0
    simp only at hS
    subst hS
    have h0 : ops[k]? = some o := by simpa using (hl 0).symm
    have hkl : k < ops.size := (Array.getElem?_eq_some_iff.1 h0).1
    simp only [pairsOk] at hp
    split at hp
    · rename_i hpk
      have hFk := hF 0 _ (by simp; rfl)
      simp only [Nat.add_zero] at hFk
      have hready : k ∈ Region.ready .any ops listed := by
        rw [mem_ready]
        refine ⟨?_, o, h0, fun e he hb => ?_⟩
        · have hk : ¬ listed.getD k false = true := fun h => by have := ((hls k).1 h).1; omega
          have hlt : k < listed.size := by omega
          simp [hlt] at hk ⊢
          exact hk
        · have := waits_lt hW (Waits.one h0 he hb)
          exact (hls _).2 ⟨this, by omega⟩
      have hshut : Shut ops listed := by
        intro j oj hj hjl e he hb
        have h2 := waits_lt hW (Waits.one hj he hb)
        have h3 := (hls j).1 hjl
        exact (hls _).2 ⟨by omega, by omega⟩
      refine RunAny.alike hQ _ _ _ _ hA (RunAny.first hQ h0 l.length listed A A hshut ?_ hready (Alike.refl _) he ?_ ?_)
      · intro j oj hj hjk hun hnw
        have hjlt : j < ops.size := (Array.getElem?_eq_some_iff.1 hj).1
        have hgt : k < j := by
          rcases Nat.lt_or_ge j k with h | h
          · have := (hls j).2 ⟨h, hjlt⟩
            have hlt : j < listed.size := by omega
            simp [hlt] at this hun
            rw [this] at hun; cases hun
          · omega
        have hol : l[j - (k + 1)]? = some oj := by
          have := hl (j - (k + 1) + 1)
          rw [show k + (j - (k + 1) + 1) = j from by omega, hj] at this
          simpa using this
        have := pairOk_spec l fs1 (k + 1) hpk (j - (k + 1)) oj hol
        rw [show k + 1 + (j - (k + 1)) = j from by omega] at this
        rcases this with hm | ⟨Fk, hf, ha, hi⟩
        · exact absurd (waits_of_mem hW j oj k hj hm) hnw
        · refine ⟨ha, ?_⟩
          have hFj := hF (j - (k + 1) + 1) Fk (by simpa using hf)
          rw [show k + (j - (k + 1) + 1) = j from by omega] at hFj
          rw [hFk, hFj]; exact hi
      · rw [hFk]
        exact ⟨fun i hi => hi, fun i b hw => keysM_mem hw⟩
      · refine lex_runAny hW hQ l (k + 1) _ _ S' fs1 (fun j => by have := hl (j + 1); simpa [Nat.add_assoc, Nat.add_comm 1 j] using this) ?_ (by simp [hsz]) (fun j f hf => ?_) h1 hp hq
        · intro j
          by_cases hjk : k = j
          · subst hjk
            have hlt : k < listed.size := by omega
            simp [hlt]; omega
          · rw [getD_set_ne false hjk, hls]; omega
        · have := hF (j + 1) f (by simpa using hf)
          rw [show k + 1 + j = k + (j + 1) from by omega]; exact this
    · cases hp

theorem drawS_sound (hc : CxOk P Γ.G cx) (hg : GlobOk Γ) (h0 : Γ.G Γ.w0) : DrawOk P Γ (drawS cx) := by
  refine ⟨fun ops S S' id hr => ?_⟩
  intro ρ a w hrel
  unfold drawS at hr
  rw [T.reach_bind] at hr
  obtain ⟨⟨S1, fs⟩, h1, h2⟩ := hr
  split at h2
  · rename_i hW hp
    rw [T.reach_ret] at h2; subst h2
    refine wp_region_any hc.mixed ?_
    have hrel' : Rel Γ ρ S a { w with drawn := w.drawn + 1 } := hrel.onto ⟨rfl, rfl, rfl, Nat.le_refl _, fun _ _ => rfl⟩
    have hrun := lex_runAny (cx := cx) (N := S.next) (F := fun i => fs.getD i ([], [])) hW (Q := fun S2 => Alike S1 S2) (fun S2 S3 h23 h => h.trans h23) ops.toList 0 (Array.replicate ops.size false) S S1 fs (by simp)
      (fun j => by by_cases hj : j < ops.size <;> simp [hj]) (by simp) (fun j f hf => by simp [List.getD, hf]) h1 hp (Alike.refl _)
    have := RunAny.sound hc hg h0 (N := S.next) (ops := ops) hrel.nx (Q := fun S2 => Alike S1 S2) (Q' := fun x a' w' => x = Ex.normal.to ∧ ∃ ρ', Rel Γ ρ' { S1 with next := S.next + ops.size } a' w')
      (fun ρ2 S2 a2 w2 hr2 h12 => ⟨rfl, ρ2, (h12.symm.rel hr2).next (by have := hrel.nx; omega)⟩) ops.toList.length (Array.replicate ops.size false) ρ S a _ hrel.nx hrel' hrun
    simpa using this
  · exact (T.reach_fail h2).elim
end
end Go.Sx

/- The symbolic layer, part N: tables of types, forgetting, loops with an invariant, contracts of functions. -/
namespace Go.Sx
open Go.RowKit (Below)

/-! ### Tables -/
def tabOf : List (Nat × TyI) → Tab
  | [], _ => none
  | (j, i) :: l, t => match Nat.beq j t with
    | true => some i
    | false => tabOf l t

theorem tabOk_of {P : Program} {l : List (Nat × TyI)} (h : ∀ x ∈ l, TyOk P x.1 x.2) : TabOk P (tabOf l) := by
  intro t i ht
  induction l with
  | nil => cases ht
  | cons x l ih =>
    obtain ⟨j, k⟩ := x
    simp only [tabOf] at ht
    split at ht
    · rename_i hj
      have := Nat.eq_of_beq_eq_true hj
      cases ht
      subst this
      exact h _ (List.mem_cons_self)
    · exact ih (fun y hy => h y (by simp [hy])) ht

def undD (P : Program) (t : TypeId) : TypeDesc := (P.underlying t).getD .invalid
def fieldsD (P : Program) (t : TypeId) : Array Field :=
  match undD P t with
  | .struct fs => fs
  | _ => #[]

theorem tyOk_of {P : Program} {t : TypeId} {i : TyI} (h1 : P.underlying t = some i.d) (h2 : (P.info? t).map (fun j => (j.size, j.bytes)) = some (i.sz, i.bytes)) (h3 : ∀ ρ, (P.info? t).bind (·.zero) = some (i.z.den ρ)) (h4 : wf i.z) (h5 : ∀ p, i.z.ids p)
    (h6 : i.pl = true → P.stoodInHeld t = false ∧ P.eqGuardType P.depth t = false ∧ ∀ fs, i.d = .struct fs → ∀ f ∈ fs.toList, f.name ≠ "_") : TyOk P t i := by
  refine ⟨h1, ?_, h4, h5, h6⟩
  cases hi : P.info? t with
  | none => rw [hi] at h2; cases h2
  | some j =>
    rw [hi] at h2
    simp at h2
    refine ⟨j, rfl, h2.1, h2.2, fun ρ => ?_⟩
    have := h3 ρ
    rw [hi] at this
    simpa using this

theorem names_of {d : TypeDesc} {fs : Array Field} (hd : d = .struct fs) (h : (fs.toList.all fun f => f.name != "_") = true) : ∀ gs, d = .struct gs → ∀ f ∈ gs.toList, f.name ≠ "_" := by
  intro gs hg f hf
  rw [hd] at hg
  cases hg
  have := List.all_eq_true.1 h f hf
  simpa using this

/-! ### Forgetting -/
mutual
def nj : SV → Bool
  | .junk _ => false
  | .agg ps => njL ps
  | .tup ps => njL ps
  | .fn _ cs => njL cs
  | .lit _ _ | .int _ _ | .tt | .ff | .bool _ | .ptr _ _ _ | .slice _ _ _ _ _ | .raw _ | .ints _ _ _ | .sl _ | .vptr _ _ | .mp _ | .str _ => true
def njL : List SV → Bool
  | [] => true
  | v :: vs => nj v && njL vs
end

def Env.withJunk (ρ : Env) (f : Nat → Value) : Env := ⟨ρ.blk, ρ.off, ρ.cap, f, ρ.vec⟩

theorem SN.den_junk (ρ : Env) (f : Nat → Value) (x : SN) : x.den (ρ.withJunk f) = x.den ρ := by cases x <;> rfl

mutual
theorem SV.den_junk (ρ : Env) (f : Nat → Value) : (v : SV) → nj v = true → v.den (ρ.withJunk f) = v.den ρ
  | .lit _ _, _ => by simp [SV.den]
  | .int _ _, _ => by simp [SV.den]
  | .tt, _ => by simp [SV.den]
  | .ff, _ => by simp [SV.den]
  | .bool _, _ => by simp [SV.den]
  | .raw _, _ => by simp [SV.den]
  | .ints _ _ _, _ => by simp [SV.den]
  | .str _, _ => by simp [SV.den]
  | .sl _, _ => by simp [SV.den, Env.withJunk]
  | .vptr _ _, _ => by simp [SV.den, Env.withJunk]
  | .mp _, _ => by simp [SV.den, Env.withJunk]
  | .ptr b o x, _ => by simp [SV.den, Env.withJunk]; exact SN.den_junk ρ f x
  | .slice b o x l c, _ => by
    simp only [SV.den, SN.den_junk]; rfl
  | .agg ps, h => by simp only [nj] at h; simp [SV.den, cellsL_junk ρ f ps h]
  | .tup ps, h => by simp only [nj] at h; simp [SV.den, denL_junk ρ f ps h]
  | .fn g cs, h => by simp only [nj] at h; simp [SV.den, denL_junk ρ f cs h]
  | .junk _, h => by simp [nj] at h
theorem cellsL_junk (ρ : Env) (f : Nat → Value) : (l : List SV) → njL l = true → cellsL (ρ.withJunk f) l = cellsL ρ l
  | [], _ => by simp [cellsL]
  | v :: vs, h => by simp only [njL, Bool.and_eq_true] at h; simp [cellsL, SV.den_junk ρ f v h.1, cellsL_junk ρ f vs h.2]
theorem denL_junk (ρ : Env) (f : Nat → Value) : (l : List SV) → njL l = true → denL (ρ.withJunk f) l = denL ρ l
  | [], _ => by simp [denL]
  | v :: vs, h => by simp only [njL, Bool.and_eq_true] at h; simp [denL, SV.den_junk ρ f v h.1, denL_junk ρ f vs h.2]
end

def Blk.nj : Blk → Bool
  | .st _ ps => njL ps
  | .dyn _ _ _ => true
  | .vec _ _ _ _ _ _ => true
  | .view _ _ _ _ => true
  | .nz _ _ => true
  | .mp _ _ _ _ _ => true
  | .gone => true

theorem Blk.cells_junk (ρ : Env) (f : Nat → Value) {b : Blk} (h : b.nj = true) : b.cells (ρ.withJunk f) = b.cells ρ := by
  cases b with
  | st o ps => exact cellsL_junk ρ f ps h
  | _ => rfl

theorem phys_junk (ρ : Env) (f : Nat → Value) (i : Nat) (b : Blk) : phys (ρ.withJunk f) i b = phys ρ i b := phys_congr b rfl rfl

/-- Slot by slot: what it was, or what is not told. -/
def slotsW : Nat → List SV → List SV → Prop
  | _, [], [] => True
  | i, x :: xs, y :: ys => (match y with
    | .junk j => j = i
    | y => x = y ∧ Sx.nj y = true) ∧ slotsW (i + 1) xs ys
  | _, _, _ => False

def memW (m : Mem) : Mem → Prop
  | [] => True
  | (i, b) :: r => look m i = some b ∧ b.nj = true ∧ memW m r

mutual
def idsB (m : Mem) : SV → Bool
  | .ptr b _ x => (look m b).isSome && (match x with | .var i => (look m i).isSome | _ => true)
  | .slice b _ x l c => (look m b).isSome && (match x with | .var i => (look m i).isSome | _ => true) && (match l with | .var i => (look m i).isSome | _ => true) && (match c with | .var i => (look m i).isSome | _ => true)
  | .agg ps => idsLB m ps
  | .tup ps => idsLB m ps
  | .fn _ cs => idsLB m cs
  | .sl i => (look m i).isSome
  | .vptr i _ => (look m i).isSome
  | .mp i => (look m i).isSome
  | .lit _ _ | .int _ _ | .tt | .ff | .bool _ | .raw _ | .ints _ _ _ | .junk _ | .str _ => true
def idsLB (m : Mem) : List SV → Bool
  | [] => true
  | v :: vs => idsB m v && idsLB m vs
end

theorem sn_ids {m : Mem} {x : SN} (h : (match x with | .var i => (look m i).isSome | _ => true) = true) : x.ids (fun i => (look m i).isSome = true) := by
  cases x <;> simp [SN.ids] at *
  exact h

mutual
theorem idsB_spec {m : Mem} : (v : SV) → idsB m v = true → v.ids (fun i => (look m i).isSome = true)
  | .ptr b o x, h => by simp only [idsB, Bool.and_eq_true] at h; simp only [SV.ids]; exact ⟨h.1, sn_ids h.2⟩
  | .slice b o x l c, h => by
    simp only [idsB, Bool.and_eq_true] at h; simp only [SV.ids]; exact ⟨h.1.1.1, sn_ids h.1.1.2, sn_ids h.1.2, sn_ids h.2⟩
  | .agg ps, h => by simp only [idsB] at h; simp only [SV.ids]; exact idsLB_spec ps h
  | .tup ps, h => by simp only [idsB] at h; simp only [SV.ids]; exact idsLB_spec ps h
  | .fn _ cs, h => by simp only [idsB] at h; simp only [SV.ids]; exact idsLB_spec cs h
  | .lit _ _, _ => by simp [SV.ids]
  | .int _ _, _ => by simp [SV.ids]
  | .tt, _ => by simp [SV.ids]
  | .ff, _ => by simp [SV.ids]
  | .bool _, _ => by simp [SV.ids]
  | .raw _, _ => by simp [SV.ids]
  | .ints _ _ _, _ => by simp [SV.ids]
  | .junk _, _ => by simp [SV.ids]
  | .str _, _ => by simp [SV.ids]
  | .sl _, h => by simp only [idsB] at h; simp only [SV.ids]; exact h
  | .vptr _ _, h => by simp only [idsB] at h; simp only [SV.ids]; exact h
  | .mp _, h => by simp only [idsB] at h; simp only [SV.ids]; exact h
theorem idsLB_spec {m : Mem} : (l : List SV) → idsLB m l = true → idsL (fun i => (look m i).isSome = true) l
  | [], _ => by simp [idsL]
  | v :: vs, h => by simp only [idsLB, Bool.and_eq_true] at h; simp only [idsL]; exact ⟨idsB_spec v h.1, idsLB_spec vs h.2⟩
end

def Blk.idsB (m : Mem) : Blk → Bool
  | .st _ ps => idsLB m ps
  | .dyn _ _ _ => true
  | .vec _ _ _ _ _ _ => true
  | .view p _ _ _ => (look m p).isSome
  | .nz p _ => (look m p).isSome
  | .mp _ _ _ _ _ => true
  | .gone => true

def memIds (m : Mem) : Mem → Bool
  | [] => true
  | (_, b) :: r => b.idsB m && memIds m r

/-- S' says less than S. -/
structure Weak (S S' : St) : Prop where
  slots : slotsW 0 S.tmps S'.tmps
  mem : memW S.mem S'.mem
  ids : idsLB S'.mem S'.tmps = true
  mids : memIds S'.mem S'.mem = true

theorem memW_look {m : Mem} : ∀ {m' : Mem}, memW m m' → ∀ i b, look m' i = some b → look m i = some b ∧ b.nj = true
  | [], _, i, b, hl => by cases hl
  | (j, c) :: r, h, i, b, hl => by
    simp only [look] at hl
    split at hl
    · rename_i hj
      have := Nat.eq_of_beq_eq_true hj
      subst this
      cases hl
      exact ⟨h.1, h.2.1⟩
    · exact memW_look h.2.2 i b hl

theorem memIds_look {m : Mem} : ∀ {m' : Mem}, memIds m m' = true → ∀ i b, look m' i = some b → b.ids (fun i => (look m i).isSome = true)
  | [], _, i, b, hl => by cases hl
  | (j, c) :: r, h, i, b, hl => by
    simp only [memIds, Bool.and_eq_true] at h
    simp only [look] at hl
    split at hl
    · cases hl
      cases c with
      | st o ps => exact idsLB_spec ps h.1
      | view p st o n => exact h.1
      | nz p b => exact h.1
      | _ => trivial
    · exact memIds_look h.2 i b hl

theorem slotsW_den (ρ : Env) (f : Nat → Value) : ∀ (i : Nat) (xs ys : List SV), slotsW i xs ys → (∀ j, j < xs.length → f (i + j) = (denL ρ xs).getD j undef) → denL (ρ.withJunk f) ys = denL ρ xs
  | _, [], [], _, _ => by simp [denL]
  | _, [], _ :: _, h, _ => h.elim
  | _, _ :: _, [], h, _ => h.elim
  | i, x :: xs, y :: ys, h, hf => by
    simp only [slotsW] at h
    obtain ⟨h1, h2⟩ := h
    have ih := slotsW_den ρ f (i + 1) xs ys h2 (fun j hj => by
      have := hf (j + 1) (by simp; omega)
      simp only [denL, List.getD_cons_succ] at this
      rw [← this]; congr 1; omega)
    simp only [denL, ih]
    congr 1
    split at h1
    · subst h1
      have := hf 0 (by simp)
      simp only [denL, List.getD_cons_zero, Nat.add_zero] at this
      simp [SV.den, Env.withJunk, this]
    · obtain ⟨rfl, hn⟩ := h1
      exact SV.den_junk ρ f _ hn

theorem slotsW_wf : ∀ (i : Nat) (xs ys : List SV), slotsW i xs ys → (∀ v ∈ xs, wf v) → ∀ v ∈ ys, wf v
  | _, [], [], _, _, v, hv => by cases hv
  | _, [], _ :: _, h, _, _, _ => h.elim
  | _, _ :: _, [], h, _, _, _ => h.elim
  | i, x :: xs, y :: ys, h, hw, v, hv => by
    simp only [slotsW] at h
    rcases List.mem_cons.1 hv with rfl | hv
    · have h1 := h.1
      split at h1
      · simp only [wf]
      · obtain ⟨rfl, -⟩ := h1; exact hw _ (by simp)
    · exact slotsW_wf (i + 1) xs ys h.2 (fun u hu => hw u (by simp [hu])) v hv

theorem Rel.weaken {Γ : Gam} {ρ : Env} {S S' : St} {a : Act} {w : World} (h : Rel Γ ρ S a w) (hw : Weak S S') (hn : Γ.n0 ≤ S'.next) : ∃ ρ', Rel Γ ρ' S' a w := by
  refine ⟨ρ.withJunk fun j => (denL ρ S.tmps).getD j undef, ?_, h.df.map (Nat.le_refl _) fun D _ hD => ⟨hD.1, fun i b hl hp => by rw [phys_junk] at hp; exact hD.2 i b (memW_look hw.mem i b hl).1 hp⟩, ?_, ?_, h.below, ⟨h.pin.blk, h.pin.off, h.pin.cap, h.pin.vec⟩, hn, slotsW_wf 0 _ _ hw.slots h.wfT, idsLB_spec _ hw.ids⟩
  · rw [h.tm, slotsW_den ρ _ 0 S.tmps S'.tmps hw.slots (fun j _ => by simp)]
  · intro i b hl
    obtain ⟨h1, h2⟩ := memW_look hw.mem i b hl
    obtain ⟨hok, -⟩ := h.mem i b h1
    have hc := Blk.cells_junk ρ (fun j => (denL ρ S.tmps).getD j undef) h2
    refine ⟨⟨hok.atoms, ?_, ?_, hok.theirs, hok.vec⟩, memIds_look hw.mids i b hl⟩
    · rw [hc]; exact hok.cell
    · rw [hc]; exact hok.mine
  · intro i j b c hi hj hne g hp hq
    rw [phys_junk] at hp hq
    exact h.dj i j b c (memW_look hw.mem i b hi).1 (memW_look hw.mem j c hj).1 hne g hp hq

theorem Comes.weaken {P : Program} {Γ : Gam} {c : Code} {S S1 S2 : St} {e : Ex} (h : Comes P Γ c S e S1) (hw : Weak S1 S2) (hn : Γ.n0 ≤ S2.next) : Comes P Γ c S e S2 :=
  fun ρ a w hrel => wp_mono (h ρ a w hrel) fun _ _ _ ⟨hx, _, hr⟩ => ⟨hx, hr.weaken hw hn⟩

/-! ### A loop with an invariant -/
section
variable {P : Program} {Γ : Gam} {cx : Cx} {draw : Array Oper → St → T St} {bl : Blocks}

/-- A block that holds a loop: 'Inv i': the state at a round's head; a round either comes to another head, lower, or leaves the block for 'Out'. -/
theorem loop_block (hc : CxOk P Γ.G cx) (hg : GlobOk Γ) (h0 : Γ.G Γ.w0) (hd : DrawOk P Γ draw) {id : Nat} {body : Code} (hbl : BlocksIn P Γ bl body) {ι : Type} (Inv : ι → St) (μ : ι → Nat) (ok : ι → Prop) (Out : St) (fuel : Nat)
    (hn : ∀ i, ok i → Γ.n0 ≤ (Inv i).next) (hno : Γ.n0 ≤ Out.next)
    (round : ∀ i, ok i → (exec cx draw bl fuel body (Inv i)).good fun r => match r.1 with
      | .normal => ∃ i', ok i' ∧ Weak r.2 (Inv i') ∧ μ i' < μ i
      | .exit j => j = id ∧ Weak r.2 Out
      | .ret => False) :
    ∀ i, ok i → Comes P Γ (.block id (.loop body)) (Inv i) .normal Out := by
  have key : ∀ (n : Nat) (i : ι), μ i ≤ n → ok i → ∀ ρ a w, Rel Γ ρ (Inv i) a w → Code.rounds P body (Exit.inBlock id fun x a' w' => x = Ex.normal.to ∧ ∃ ρ', Rel Γ ρ' Out a' w') (n + 1) a w := by
    intro n
    induction n with
    | zero =>
      intro i hle hi ρ a w hrel
      rw [rounds_succ]
      obtain ⟨⟨e, S1⟩, hr, hq⟩ := T.reach_of_good (round i hi)
      refine wp_mono ((exec_sound hc hg h0 hd fuel).1 body _ S1 e hbl hr ρ a w hrel) fun x a' w' ⟨hx, ρ', hr'⟩ => ?_
      subst hx
      cases e with
      | normal => obtain ⟨i', -, -, hlt⟩ := hq; omega
      | exit j =>
        obtain ⟨hj, hw⟩ := hq
        simp only [Ex.to, Exit.then, Exit.inBlock]
        rw [if_pos hj]
        exact ⟨trivial, hr'.weaken hw hno⟩
      | ret => exact hq.elim
    | succ n ih =>
      intro i hle hi ρ a w hrel
      rw [rounds_succ]
      obtain ⟨⟨e, S1⟩, hr, hq⟩ := T.reach_of_good (round i hi)
      refine wp_mono ((exec_sound hc hg h0 hd fuel).1 body _ S1 e hbl hr ρ a w hrel) fun x a' w' ⟨hx, ρ', hr'⟩ => ?_
      subst hx
      cases e with
      | normal =>
        obtain ⟨i', hi', hw, hlt⟩ := hq
        obtain ⟨ρ2, hr2⟩ := hr'.weaken hw (hn i' hi')
        exact ih i' (by omega) hi' ρ2 a' w' hr2
      | exit j =>
        obtain ⟨hj, hw⟩ := hq
        simp only [Ex.to, Exit.then, Exit.inBlock]
        rw [if_pos hj]
        exact ⟨trivial, hr'.weaken hw hno⟩
      | ret => exact hq.elim
  intro i hi ρ a w hrel
  exact wp_block (wp_loop_rounds (μ i + 1) (key (μ i) i (Nat.le_refl _) hi ρ a w hrel))
end

/-! ### A function's contract -/
/-- A value that says the same under every valuation, and names no block. -/
structure Closed (v : SV) : Prop where
  den : ∀ ρ ρ', v.den ρ = v.den ρ'
  ids : ∀ p, v.ids p
  wf : wf v

/-- The world in which the listed variables hold what is told. -/
structure GlobIs (G : World → Prop) (gm : Mem) : Prop where
  atoms : ∀ i b, look gm i = some b → b.atoms ∧ b.own = false ∧ (∀ p, b.ids p) ∧ 1000000 ≤ i ∧ b.placed = true
  cell : ∀ w, G w → ∀ i b, look gm i = some b → i - 1000000 < w.heap.size ∧ ∀ ρ j v, (b.cells ρ)[j]? = some v → w.cell? ⟨i - 1000000, j, none⟩ = some v

theorem entry_rel {G : World → Prop} {gm : Mem} (hgm : GlobIs G gm) {args : List SV} (hargs : ∀ x ∈ args, Closed x) (n : Nat) (ρ : Env) (w : World) (hw : G w) :
    let ρ0 : Env := ⟨fun i => i - 1000000, fun _ => 0, fun _ => 0, ρ.junk, ρ.vec⟩
    Rel ⟨w, ρ0, 0, G, fun _ _ => False, 0⟩ ρ0 { tmps := entryTmps args n, mem := gm, next := 0 } { tmps := (denL ρ0 (entryTmps args n)).toArray, defers := [] } w := by
  refine ⟨rfl, .none (fun _ _ h => h.elim) (Nat.zero_le _), ?_, ?_, Below.refl _ _, ⟨fun _ _ => rfl, fun _ _ => rfl, fun _ _ => rfl, fun _ _ => rfl⟩, Nat.le_refl _, ?_, ?_⟩
  · intro i b hl
    obtain ⟨h1, h2, h3, h4, h4'⟩ := hgm.atoms i b hl
    obtain ⟨h5, h6⟩ := hgm.cell w hw i b hl
    exact ⟨⟨h1, fun j v hj => by simpa using h6 _ j v hj, fun ho => (by rw [h2] at ho; cases ho), fun _ _ => h5, by cases b <;> first | trivial | cases h4'⟩, h3 _⟩
  · intro i j b c hi _ _ g hp
    have h2 := (hgm.atoms i b hi).2.1
    have h5 := (hgm.atoms i b hi).2.2.2.2
    cases b <;> first | (simp only [Blk.own] at h2; subst h2; cases hp) | cases h5
  · intro v hv
    simp only [entryTmps, List.mem_append, List.mem_replicate] at hv
    rcases hv with hv | ⟨-, rfl⟩
    · exact (hargs v hv).wf
    · simp only [wf]
  · refine idsL_iff.2 fun v hv => ?_
    simp only [entryTmps, List.mem_append, List.mem_replicate] at hv
    rcases hv with hv | ⟨-, rfl⟩
    · exact (hargs v hv).ids _
    · simp only [SV.ids]

theorem fn_ok {P : Program} {G : World → Prop} {cx : Cx} (hc : CxOk P G cx) {gm : Mem} (hgm : GlobIs G gm) {f : FuncId} {fn : Func} {c : Code} (hf : P.funcs[f]? = some fn) (hb : fn.body = some c) {bl : Blocks} {fuel : Nat} {args : List SV} {v : SV}
    (hargs : ∀ x ∈ args, Closed x) (hv : Closed v) (hbl : ∀ Γ : Gam, Γ.G = G → Γ.G Γ.w0 → GlobOk Γ → Γ.n0 = 0 → BlocksIn P Γ bl c)
    (hr : (runFn cx (drawS cx) bl fuel c fn.ntmps fn.results.toList args gm 0).good fun r => r.1 = v) (ρ : Env) (w : World) (hw : G w) :
    Calls P f (denL ρ args).toArray w (fun e w' => e = .returned (v.den ρ) ∧ Below w.heap.size w w') := by
  obtain ⟨⟨u, S'⟩, hreach, hu⟩ := T.reach_of_good hr
  simp only at hu
  subst hu
  have hrel := entry_rel hgm hargs fn.ntmps ρ w hw
  have hg : GlobOk ⟨w, ⟨fun i => i - 1000000, fun _ => 0, fun _ => 0, ρ.junk, ρ.vec⟩, 0, G, fun _ _ => False, 0⟩ := fun g => ⟨by simp [gid], rfl⟩
  have hcall := runFn_sound (Γ := ⟨w, ⟨fun i => i - 1000000, fun _ => 0, fun _ => 0, ρ.junk, ρ.vec⟩, 0, G, fun _ _ => False, 0⟩) hc hg hw (drawS_sound hc hg hw) hf hb (hbl _ rfl hw hg rfl) hreach hrel
  have hden : (denL ⟨fun i => i - 1000000, fun _ => 0, fun _ => 0, ρ.junk, ρ.vec⟩ args) = denL ρ args := by
    rw [denL_eq, denL_eq]
    exact List.map_congr_left fun x hx => (hargs x hx).den _ _
  rw [hden] at hcall
  exact hcall.mono fun e w' ⟨ρ', a', he, hr', _⟩ => ⟨by rw [he, hv.den ρ' ρ], hr'.below⟩
end Go.Sx

/- The symbolic layer, part O: contracts over plain arguments, and how they are put together. -/
namespace Go.Sx
open Go.RowKit (Below)

/-- The kinds of plain arguments, and the arguments. -/
inductive AK where
  | num (k : IntKind)
  | ints (k : IntKind) (n : Nat)
  | bool
  | agg (ps : List (IntKind × Nat))

inductive AV where
  | n (x : Int)
  | l (xs : List Int)
  | b (c : Bool)
  | a (ls : List (List Int))

def asNum (k : IntKind) (v : SV) : Option Int :=
  match numOf v with
  | some (_, k', n) => match decide (k' = k) with
    | true => some n
    | false => none
  | none => none

def asInts (k : IntKind) (n : Nat) : SV → Option (List Int)
  | .ints k' n' l => match decide (k' = k), Nat.beq n' n with
    | true, true => some l
    | _, _ => none
  | _ => none

def asParts : List (IntKind × Nat) → List SV → Option (List (List Int))
  | [], [] => some []
  | (k, n) :: ks, p :: ps => match asInts k n p, asParts ks ps with
    | some l, some ls => some (l :: ls)
    | _, _ => none
  | _, _ => none

def parse1 : AK → SV → Option AV
  | .num k, v => (asNum k v).map .n
  | .ints k n, v => (asInts k n v).map .l
  | .bool, v => (boolOf v).map .b
  | .agg ks, v => match v with
    | .agg ps => (asParts ks ps).map .a
    | _ => none

def parse : List AK → List SV → Option (List AV)
  | [], [] => some []
  | k :: ks, v :: vs => match parse1 k v, parse ks vs with
    | some a, some as => some (a :: as)
    | _, _ => none
  | _, _ => none

def partsOf : List (IntKind × Nat) → List (List Int) → List SV
  | (k, n) :: ks, l :: ls => .ints k n l :: partsOf ks ls
  | _, _ => []

def can1 : AK → AV → SV
  | .num k, .n x => .int k x
  | .ints k n, .l xs => .ints k n xs
  | .bool, .b c => .bool c
  | .agg ks, .a ls => .agg (partsOf ks ls)
  | _, _ => .raw undef

def can : List AK → List AV → List SV
  | k :: ks, a :: as => can1 k a :: can ks as
  | _, _ => []

/-- Lists are as long as their kinds say. -/
def lens : List (IntKind × Nat) → List (List Int) → Prop
  | (_, n) :: ks, l :: ls => l.length = n ∧ lens ks ls
  | [], [] => True
  | _, _ => False

def fit1 : AK → AV → Prop
  | .num _, .n _ => True
  | .ints _ n, .l xs => xs.length = n
  | .bool, .b _ => True
  | .agg ks, .a ls => lens ks ls
  | _, _ => False

def fit : List AK → List AV → Prop
  | [], [] => True
  | k :: ks, a :: as => fit1 k a ∧ fit ks as
  | _, _ => False

theorem asInts_spec {k : IntKind} {n : Nat} {v : SV} {l : List Int} (h : asInts k n v = some l) : v = .ints k n l := by
  unfold asInts at h
  split at h
  · split at h
    · rename_i h1 h2
      have h1 := of_decide_eq_true h1
      have h2 := Nat.eq_of_beq_eq_true h2
      cases h; subst h1; subst h2; rfl
    · cases h
  · cases h

theorem asParts_spec : ∀ {ks : List (IntKind × Nat)} {ps : List SV} {ls : List (List Int)}, asParts ks ps = some ls → (∀ p ∈ ps, isAtom p) → ps = partsOf ks ls ∧ lens ks ls
  | [], [], ls, h, _ => by simp [asParts] at h; subst h; simp [partsOf, lens]
  | [], _ :: _, ls, h, _ => by simp [asParts] at h
  | _ :: _, [], ls, h, _ => by simp [asParts] at h
  | (k, n) :: ks, p :: ps, ls, h, hw => by
    simp only [asParts] at h
    split at h
    · rename_i l ls' h1 h2
      cases h
      have := asInts_spec h1
      subst this
      obtain ⟨e, hl⟩ := asParts_spec h2 (fun q hq => hw q (by simp [hq]))
      have h0 := hw (.ints k n l) (by simp)
      simp only [isAtom] at h0
      exact ⟨by simp [partsOf, ← e], h0, hl⟩
    · cases h

theorem partsOf_atoms : ∀ {ks : List (IntKind × Nat)} {ls : List (List Int)}, lens ks ls → ∀ p ∈ partsOf ks ls, isAtom p
  | [], _, _, p, hp => by cases hp
  | _ :: _, [], _, p, hp => by cases hp
  | (k, n) :: ks, l :: ls, h, p, hp => by
    simp only [partsOf, List.mem_cons] at hp
    rcases hp with rfl | hp
    · simp only [isAtom]; exact h.1
    · exact partsOf_atoms h.2 p hp

theorem partsOf_den : ∀ (ks : List (IntKind × Nat)) (ls : List (List Int)) (ρ ρ' : Env), cellsL ρ (partsOf ks ls) = cellsL ρ' (partsOf ks ls)
  | [], _, _, _ => rfl
  | _ :: _, [], _, _ => rfl
  | (k, n) :: ks, l :: ls, ρ, ρ' => by simp [partsOf, cellsL, SV.den, partsOf_den ks ls ρ ρ']

theorem partsOf_ids (p : Nat → Prop) : ∀ (ks : List (IntKind × Nat)) (ls : List (List Int)), idsL p (partsOf ks ls)
  | [], _ => by simp [partsOf, idsL]
  | _ :: _, [] => by simp [partsOf, idsL]
  | (k, n) :: ks, l :: ls => by simp [partsOf, idsL, SV.ids, partsOf_ids p ks ls]

theorem closed_int (k : IntKind) (x : Int) : Closed (.int k x) := ⟨fun _ _ => by simp [SV.den], fun _ => by simp [SV.ids], by simp only [wf]⟩
theorem closed_ints {k : IntKind} {n : Nat} {l : List Int} (h : l.length = n) : Closed (.ints k n l) := ⟨fun _ _ => by simp [SV.den], fun _ => by simp [SV.ids], by simp only [wf]; exact h⟩
theorem closed_bool (b : Bool) : Closed (.bool b) := ⟨fun _ _ => by simp [SV.den], fun _ => by simp [SV.ids], by simp only [wf]⟩
theorem closed_agg {ks : List (IntKind × Nat)} {ls : List (List Int)} (h : lens ks ls) : Closed (.agg (partsOf ks ls)) :=
  ⟨fun ρ ρ' => by simp only [SV.den]; rw [partsOf_den ks ls ρ ρ'], fun p => by simp only [SV.ids]; exact partsOf_ids p ks ls, by simp only [wf]; exact atomsL_iff.2 (partsOf_atoms h)⟩
theorem closed_tup {vs : List SV} (h : ∀ v ∈ vs, Closed v) : Closed (.tup vs) :=
  ⟨fun ρ ρ' => by simp only [SV.den, denL_eq]; rw [List.map_congr_left fun v hv => (h v hv).den ρ ρ'], fun p => by simp only [SV.ids]; exact idsL_iff.2 fun v hv => (h v hv).ids p, by simp only [wf]; exact wfL_iff.2 fun v hv => (h v hv).wf⟩

theorem can1_closed {k : AK} {a : AV} (h : fit1 k a) : Closed (can1 k a) := by
  cases k <;> cases a <;> simp only [fit1] at h <;> try exact h.elim
  · exact closed_int _ _
  · exact closed_ints h
  · exact closed_bool _
  · exact closed_agg h

theorem parse1_spec {k : AK} {v : SV} {a : AV} (h : parse1 k v = some a) (hw : wf v) : fit1 k a ∧ ∀ ρ, (can1 k a).den ρ = v.den ρ := by
  cases k with
  | num k =>
    simp only [parse1, Option.map_eq_some_iff] at h
    obtain ⟨x, h, rfl⟩ := h
    unfold asNum at h
    split at h
    · rename_i b k' n hn
      split at h
      · rename_i hk
        have hk := of_decide_eq_true hk
        cases h; subst hk
        exact ⟨trivial, fun ρ => by rw [numOf_den hn]; simp [can1, SV.den]⟩
      · cases h
    · cases h
  | ints k n =>
    simp only [parse1, Option.map_eq_some_iff] at h
    obtain ⟨x, h, rfl⟩ := h
    have := asInts_spec h
    subst this
    simp only [wf] at hw
    exact ⟨hw, fun ρ => rfl⟩
  | bool =>
    simp only [parse1, Option.map_eq_some_iff] at h
    obtain ⟨x, h, rfl⟩ := h
    exact ⟨trivial, fun ρ => by rw [boolOf_den h]; simp [can1, SV.den]⟩
  | agg ks =>
    simp only [parse1] at h
    split at h
    · rename_i ps
      simp only [Option.map_eq_some_iff] at h
      obtain ⟨x, h, rfl⟩ := h
      simp only [wf] at hw
      obtain ⟨rfl, hl⟩ := asParts_spec h (atomsL_iff.1 hw)
      exact ⟨hl, fun ρ => rfl⟩
    · cases h

theorem parse_spec : ∀ {ks : List AK} {vs : List SV} {as : List AV}, parse ks vs = some as → (∀ v ∈ vs, wf v) → fit ks as ∧ (∀ ρ, denL ρ (can ks as) = denL ρ vs) ∧ ∀ x ∈ can ks as, Closed x
  | [], [], as, h, _ => by simp [parse] at h; subst h; simp [fit, can, denL]
  | [], _ :: _, as, h, _ => by simp [parse] at h
  | _ :: _, [], as, h, _ => by simp [parse] at h
  | k :: ks, v :: vs, as, h, hw => by
    simp only [parse] at h
    split at h
    · rename_i a as' h1 h2
      cases h
      obtain ⟨f1, d1⟩ := parse1_spec h1 (hw v (by simp))
      obtain ⟨f2, d2, c2⟩ := parse_spec h2 (fun u hu => hw u (by simp [hu]))
      refine ⟨⟨f1, f2⟩, fun ρ => by simp only [can, denL, d1 ρ, d2 ρ], fun x hx => ?_⟩
      simp only [can, List.mem_cons] at hx
      rcases hx with rfl | hx
      · exact can1_closed f1
      · exact c2 x hx
    · cases h

/-- A contract over plain arguments. -/
def spG (ks : List AK) (f : List AV → T SV) (args : List SV) : T SV :=
  match parse ks args with
  | some as => f as
  | none => .fail "a contract's arguments"

/-- What is owed of a contract: what it tells is closed. -/
def ClosedF (ks : List AK) (f : List AV → T SV) : Prop := ∀ as v, fit ks as → T.Reach (f as) v → Closed v

theorem spG_reach {ks : List AK} {f : List AV → T SV} {args : List SV} {v : SV} (h : T.Reach (spG ks f args) v) : ∃ as, parse ks args = some as ∧ T.Reach (f as) v := by
  unfold spG at h
  split at h
  · rename_i as ha; exact ⟨as, ha, h⟩
  · exact (T.reach_fail h).elim

structure FnOk (P : Program) (G : World → Prop) (g : FuncId) (spec : List SV → T SV) : Prop where
  closed : ∀ args v, (∀ x ∈ args, wf x) → T.Reach (spec args) v → Closed v
  ids : ∀ args v, T.Reach (spec args) v → ∀ p, v.ids p
  enters : ∀ args w, (callFunc g args).run P w = .ok (.enter g args) w
  call : ∀ args v, (∀ x ∈ args, wf x) → T.Reach (spec args) v → ∀ ρ w, G w → Calls P g (denL ρ args).toArray w (fun e w' => e = .returned (v.den ρ) ∧ Below w.heap.size w w')

def fnsOf : List (Nat × (List SV → T SV)) → FuncId → Option (List SV → T SV)
  | [], _ => none
  | (j, s) :: l, g => match Nat.beq j g with
    | true => some s
    | false => fnsOf l g

structure ExtOk (P : Program) (g : FuncId) (spec : List SV → T SV) : Prop where
  closed : ∀ args v, (∀ x ∈ args, wf x) → T.Reach (spec args) v → Closed v
  ids : ∀ args v, T.Reach (spec args) v → ∀ p, v.ids p
  call : ∀ args v, (∀ x ∈ args, wf x) → T.Reach (spec args) v → ∀ ρ w, (callFunc g (denL ρ args).toArray).run P w = .ok (.value (v.den ρ)) w

/-- All that is listed holds. -/
def FnsOk (P : Program) (G : World → Prop) : List (Nat × (List SV → T SV)) → Prop
  | [] => True
  | (g, s) :: l => FnOk P G g s ∧ FnsOk P G l

def ExtsOk (P : Program) : List (Nat × (List SV → T SV)) → Prop
  | [] => True
  | (g, s) :: l => ExtOk P g s ∧ ExtsOk P l

theorem fnsOf_ok {P : Program} {G : World → Prop} : ∀ {l : List (Nat × (List SV → T SV))}, FnsOk P G l → ∀ g s, fnsOf l g = some s → FnOk P G g s
  | [], _, g, s, h => by cases h
  | (j, t) :: l, hl, g, s, h => by
    simp only [fnsOf] at h
    split at h
    · rename_i hj
      have := Nat.eq_of_beq_eq_true hj
      subst this
      cases h
      exact hl.1
    · exact fnsOf_ok hl.2 g s h

theorem extsOf_ok {P : Program} : ∀ {l : List (Nat × (List SV → T SV))}, ExtsOk P l → ∀ g s, fnsOf l g = some s → ExtOk P g s
  | [], _, g, s, h => by cases h
  | (j, t) :: l, hl, g, s, h => by
    simp only [fnsOf] at h
    split at h
    · rename_i hj
      have := Nat.eq_of_beq_eq_true hj
      subst this
      cases h
      exact hl.1
    · exact extsOf_ok hl.2 g s h

def cxOf (tab : Tab) (exts fns : List (Nat × (List SV → T SV))) : Cx := ⟨tab, fnsOf exts, fnsOf fns, fun _ => none, fun _ => none⟩

theorem cxOk_of {P : Program} {G : World → Prop} {tab : Tab} {exts fns : List (Nat × (List SV → T SV))} (ht : TabOk P tab) (he : ExtsOk P exts) (hf : FnsOk P G fns) (hk : ∀ w w', Below w.heap.size w w' → G w → G w') (hm : P.follows .mixedOrders = true) :
    CxOk P G (cxOf tab exts fns) := by
  refine ⟨ht, fun g s h => ?_, fun g s h => ?_, hk, hm, fun _ _ _ _ g h hh => (by cases hh), fun _ _ _ _ g h hh => (by cases hh)⟩
  · have := extsOf_ok he g s h
    exact ⟨⟨fun args v hw hr => (this.closed args v hw hr).wf, fun args v hr p _ => this.ids args v hr p⟩, this.call⟩
  · have := fnsOf_ok hf g s h
    exact ⟨⟨fun args v hw hr => (this.closed args v hw hr).wf, fun args v hr p _ => this.ids args v hr p⟩, this.enters, this.call⟩

/-- The run's value alone. -/
def valOf (t : T (SV × St)) : T SV := t.bind fun r => .ret r.1
theorem valOf_good {t : T (SV × St)} {Q : SV → Prop} (h : (valOf t).good Q) : t.good fun r => Q r.1 := by
  unfold valOf at h
  rw [T.good_bind] at h
  exact h

/-- A function's run from plain arguments. -/
def runX (cx : Cx) (bl : Blocks) (fuel : Nat) (fn : Func) (c : Code) (args : List SV) (gm : Mem) : T SV := valOf (runFn cx (drawS cx) bl fuel c fn.ntmps fn.results.toList args gm 0)

/-- **A function's contract, by its run.** -/
theorem fnOk_of {P : Program} {G : World → Prop} {cx : Cx} (hc : CxOk P G cx) {gm : Mem} (hgm : GlobIs G gm) {g : FuncId} {fn : Func} {c : Code} (hf : P.funcs[g]? = some fn) (hb : fn.body = some c) (hent : ∀ args w, (callFunc g args).run P w = .ok (.enter g args) w)
    {bl : Blocks} {fuel : Nat} {ks : List AK} {f : List AV → T SV} (hids : ∀ as v, T.Reach (f as) v → ∀ p, v.ids p)
    (hbl : ∀ Γ : Gam, Γ.G = G → Γ.G Γ.w0 → GlobOk Γ → Γ.n0 = 0 → BlocksIn P Γ bl c)
    (h : ∀ as v, fit ks as → T.Reach (f as) v → Closed v ∧ (runX cx bl fuel fn c (can ks as) gm).good fun u => u = v) : FnOk P G g (spG ks f) := by
  refine ⟨fun args v hw hr => ?_, fun args v hr p => ?_, hent, fun args v hw hr ρ w hG => ?_⟩
  · obtain ⟨as, ha, hr⟩ := spG_reach hr
    exact (h as v (parse_spec ha hw).1 hr).1
  · obtain ⟨as, ha, hr⟩ := spG_reach hr
    exact hids as v hr p
  · obtain ⟨as, ha, hr⟩ := spG_reach hr
    obtain ⟨h1, h2, h3⟩ := parse_spec ha hw
    obtain ⟨hv, hrun⟩ := h as v h1 hr
    rw [← h2 ρ]
    exact fn_ok hc hgm hf hb h3 hv hbl (valOf_good hrun) ρ w hG

theorem enters_of {P : Program} {g : FuncId} {fn : Func} (hf : P.funcs[g]? = some fn) (hn : (fn.name == "runtime.NumGoroutine") = false) (hb : fn.body.isNone = false) (args : Array Value) (w : World) : (callFunc g args).run P w = .ok (.enter g args) w := by
  simp only [callFunc, Sem.run_bind, run_program, Result.andThen_ok, hf, hn, hb, Bool.false_eq_true, if_false, Sem.run_pure]

theorem blocksIn_none {P : Program} {Γ : Gam} : ∀ c : Code, BlocksIn P Γ (fun _ => none) c := by
  intro c
  induction c with
  | seq a b iha ihb => exact ⟨iha, ihb⟩
  | cond c a b iha ihb => exact ⟨iha, ihb⟩
  | block id b ih => exact ih
  | loop b ih => exact ih
  | scope b ih => exact ih
  | _ => trivial
end Go.Sx

/- Plain numbers: lists of 64-bit digits. No program in sight. -/
namespace Go.Sx

def M64 : Int := 18446744073709551616

/-- Digits of sixty-four bits. -/
def U64 (l : List Int) : Prop := ∀ x ∈ l, 0 ≤ x ∧ x < 18446744073709551616
def val : List Int → Int
  | [] => 0
  | x :: l => x + 18446744073709551616 * val l
def toL : Nat → Int → List Int
  | 0, _ => []
  | k + 1, n => n % 18446744073709551616 :: toL k (n / 18446744073709551616)
/-- 2^64 to the power of k. -/
def pw : Nat → Int
  | 0 => 1
  | k + 1 => 18446744073709551616 * pw k

theorem pw_pos (k : Nat) : 0 < pw k := by induction k with
  | zero => decide
  | succ k ih => simp only [pw]; omega

theorem toL_length (k : Nat) (n : Int) : (toL k n).length = k := by induction k generalizing n <;> simp [toL, *]

theorem toL_u64 (k : Nat) (n : Int) : U64 (toL k n) := by
  induction k generalizing n with
  | zero => intro x hx; simp [toL] at hx
  | succ k ih =>
    intro x hx
    rcases List.mem_cons.1 hx with rfl | hx
    · omega
    · exact ih _ x hx

theorem U64.cons {x : Int} {l : List Int} : U64 (x :: l) ↔ (0 ≤ x ∧ x < 18446744073709551616) ∧ U64 l := by
  simp [U64]

theorem U64.nil : U64 [] := fun x hx => by cases hx

theorem val_range {l : List Int} (h : U64 l) : 0 ≤ val l ∧ val l < pw l.length := by
  induction l with
  | nil => simp [val, pw]
  | cons x l ih =>
    obtain ⟨h1, h2⟩ := U64.cons.1 h
    have := ih h2
    simp only [val, List.length_cons, pw]
    generalize pw l.length = p at *
    omega

theorem val_toL (k : Nat) (n : Int) : val (toL k n) = n % pw k := by
  induction k generalizing n with
  | zero => simp [toL, val, pw, Int.emod_one]
  | succ k ih =>
    simp only [toL, val, ih, pw]
    have hp := pw_pos k
    have h1 := Int.emod_add_mul_ediv (n / 18446744073709551616) (pw k)
    have h2 := Int.emod_nonneg (n / 18446744073709551616) (show pw k ≠ 0 by omega)
    have h3 := Int.emod_lt_of_pos (n / 18446744073709551616) hp
    generalize hq : n / 18446744073709551616 = q at *
    generalize ht : q % pw k = t at *
    generalize hs : q / pw k = s at *
    generalize pw k = p at *
    have e : n = (n % 18446744073709551616 + 18446744073709551616 * t) + (18446744073709551616 * p) * s := by
      have : (18446744073709551616 * p) * s = 18446744073709551616 * (p * s) := by rw [Int.mul_assoc]
      omega
    generalize hr : n % 18446744073709551616 = r at *
    rw [e, Int.add_mul_emod_self_left, Int.emod_eq_of_lt (by omega) (by omega)]

theorem toL_val {l : List Int} (h : U64 l) : toL l.length (val l) = l := by
  induction l with
  | nil => rfl
  | cons x l ih =>
    obtain ⟨h1, h2⟩ := U64.cons.1 h
    simp only [List.length_cons, toL, val]
    congr 1
    · omega
    · have : (x + 18446744073709551616 * val l) / 18446744073709551616 = val l := by omega
      rw [this]; exact ih h2

theorem toL_mod (k : Nat) (n : Int) : toL k (n % pw k) = toL k n := by
  rw [← val_toL]
  have := toL_val (toL_u64 k n)
  rw [toL_length] at this
  exact this

/-- Sums, with what goes over. -/
def addL : List Int → List Int → Int → List Int × Int
  | a :: as, b :: bs, c => ((a + b + c) % 18446744073709551616 :: (addL as bs ((a + b + c) / 18446744073709551616)).1, (addL as bs ((a + b + c) / 18446744073709551616)).2)
  | _, _, c => ([], c)

theorem addL_eq : ∀ (k : Nat) (a b : List Int) (c : Int), a.length = k → b.length = k → addL a b c = (toL k (val a + val b + c), (val a + val b + c) / pw k)
  | 0, a, b, c, ha, hb => by
    have : a = [] := by cases a <;> simp_all
    subst this
    have : b = [] := by cases b <;> simp_all
    subst this
    simp [addL, toL, val, pw]
  | k + 1, a :: as, b :: bs, c, ha, hb => by
    have ih := addL_eq k as bs ((a + b + c) / 18446744073709551616) (by simpa using ha) (by simpa using hb)
    simp only [addL, ih, toL, val, pw]
    have e1 : (a + 18446744073709551616 * val as + (b + 18446744073709551616 * val bs) + c) % 18446744073709551616 = (a + b + c) % 18446744073709551616 := by omega
    have e2 : (a + 18446744073709551616 * val as + (b + 18446744073709551616 * val bs) + c) / 18446744073709551616 = val as + val bs + (a + b + c) / 18446744073709551616 := by omega
    rw [e1, e2]
    congr 1
    rw [← e2, Int.ediv_ediv_of_nonneg (by omega)]
end Go.Sx

/- Contracts of math/bits and of the field, as functions of plain arguments. -/
namespace Go.Sx

def add64F : List AV → T SV
  | [.n x, .n y, .n c] => .need (0 ≤ x ∧ 0 ≤ y ∧ 0 ≤ c ∧ c ≤ 1) (.ret (.tup [.int .u64 ((x + y + c) % 18446744073709551616), .int .u64 ((x + y + c) / 18446744073709551616)]))
  | _ => .fail "Add64"

def sub64F : List AV → T SV
  | [.n x, .n y, .n c] => .need ((0 ≤ x ∧ x < 18446744073709551616) ∧ (0 ≤ y ∧ y < 18446744073709551616) ∧ 0 ≤ c ∧ c ≤ 1) (.ret (.tup [.int .u64 ((x - y - c) % 18446744073709551616), .int .u64 (if x < y + c then 1 else 0)]))
  | _ => .fail "Sub64"

def n3 : List AK := [.num .u64, .num .u64, .num .u64]

theorem closed_two (a b : Int) : Closed (.tup [.int .u64 a, .int .u64 b]) := closed_tup fun v hv => by
  simp at hv; rcases hv with rfl | rfl <;> exact closed_int _ _

/-- Three numbers, or nothing. -/
theorem fit_n3 {as : List AV} (h : fit n3 as) : ∃ x y z, as = [.n x, .n y, .n z] := by
  match as, h with
  | [a, b, c], h =>
    obtain ⟨h1, h2, h3, -⟩ := h
    cases a <;> cases b <;> cases c <;> first | exact ⟨_, _, _, rfl⟩ | exact h1.elim | exact h2.elim | exact h3.elim
  | [], h => exact h.elim
  | [_], h => exact h.2.elim
  | [_, _], h => exact h.2.2.elim
  | _ :: _ :: _ :: _ :: _, h => exact h.2.2.2.elim

theorem add64_ext {P : Program} {g : FuncId} (h : ∀ (args : Array Value) w, (callFunc g args).run P w = ((add64Entry args).run P w).andThen fun v w' => .ok (.value v) w') : ExtOk P g (spG n3 add64F) := by
  refine ⟨fun args v hw hr => ?_, fun args v hr p => ?_, fun args v hw hr ρ w => ?_⟩
  · obtain ⟨as, ha, hr⟩ := spG_reach hr
    obtain ⟨x, y, z, rfl⟩ := fit_n3 (parse_spec ha hw).1
    simp only [add64F, T.reach_need, T.reach_ret] at hr
    obtain ⟨-, rfl⟩ := hr
    exact closed_two _ _
  · obtain ⟨as, ha, hr⟩ := spG_reach hr
    unfold add64F at hr
    split at hr
    · rw [T.reach_need, T.reach_ret] at hr
      obtain ⟨-, rfl⟩ := hr
      exact (closed_two _ _).ids p
    · exact (T.reach_fail hr).elim
  · obtain ⟨as, ha, hr⟩ := spG_reach hr
    obtain ⟨h1, h2, -⟩ := parse_spec ha hw
    obtain ⟨x, y, z, rfl⟩ := fit_n3 h1
    simp only [add64F, T.reach_need, T.reach_ret] at hr
    obtain ⟨⟨a, b, c, d⟩, rfl⟩ := hr
    rw [← h2 ρ, h]
    simp only [can, n3, can1, denL, SV.den]
    rw [run_add64 x y z a b c d]
    simp

def sub64Entry : Array Value → Sem Value := fun args => do
  let (x, y, b) ← Extern.MathBitsCarry.three "Sub64" args
  pure (Extern.MathBitsCarry.pair ((x + Extern.MathBitsCarry.m64 - y - b) % Extern.MathBitsCarry.m64) (if x < y + b then 1 else 0))

theorem run_sub64 {P : Program} (x y c : Int) (hx : 0 ≤ x) (hx1 : x < 18446744073709551616) (hy : 0 ≤ y) (hy1 : y < 18446744073709551616) (hc0 : 0 ≤ c) (hc : c ≤ 1) (w : World) :
    (sub64Entry #[.int .u64 x, .int .u64 y, .int .u64 c]).run P w =
      .ok (.tuple #[.int .u64 ((x - y - c) % 18446744073709551616), .int .u64 (if x < y + c then 1 else 0)]) w := by
  have key : ∀ k : Nat, k ≤ 1 → (sub64Entry #[.int .u64 x, .int .u64 y, .int .u64 (k : Int)]).run P w =
      .ok (Extern.MathBitsCarry.pair ((x.toNat + Extern.MathBitsCarry.m64 - y.toNat - k) % Extern.MathBitsCarry.m64) (if x.toNat < y.toNat + k then 1 else 0)) w := by
    intro k hk
    have : k = 0 ∨ k = 1 := by omega
    rcases this with rfl | rfl <;> rfl
  obtain ⟨k, rfl⟩ := Int.eq_ofNat_of_zero_le hc0
  rw [key k (by omega)]
  obtain ⟨X, rfl⟩ := Int.eq_ofNat_of_zero_le hx
  obtain ⟨Y, rfl⟩ := Int.eq_ofNat_of_zero_le hy
  simp only [Extern.MathBitsCarry.pair, Extern.MathBitsCarry.m64, Int.toNat_natCast]
  congr 4
  · simp; omega
  · simp
    congr 1
    split <;> split <;> omega

theorem sub64_ext {P : Program} {g : FuncId} (h : ∀ (args : Array Value) w, (callFunc g args).run P w = ((sub64Entry args).run P w).andThen fun v w' => .ok (.value v) w') : ExtOk P g (spG n3 sub64F) := by
  refine ⟨fun args v hw hr => ?_, fun args v hr p => ?_, fun args v hw hr ρ w => ?_⟩
  · obtain ⟨as, ha, hr⟩ := spG_reach hr
    obtain ⟨x, y, z, rfl⟩ := fit_n3 (parse_spec ha hw).1
    simp only [sub64F, T.reach_need, T.reach_ret] at hr
    obtain ⟨-, rfl⟩ := hr
    exact closed_two _ _
  · obtain ⟨as, ha, hr⟩ := spG_reach hr
    unfold sub64F at hr
    split at hr
    · rw [T.reach_need, T.reach_ret] at hr
      obtain ⟨-, rfl⟩ := hr
      exact (closed_two _ _).ids p
    · exact (T.reach_fail hr).elim
  · obtain ⟨as, ha, hr⟩ := spG_reach hr
    obtain ⟨h1, h2, -⟩ := parse_spec ha hw
    obtain ⟨x, y, z, rfl⟩ := fit_n3 h1
    simp only [sub64F, T.reach_need, T.reach_ret] at hr
    obtain ⟨⟨⟨a, a'⟩, ⟨b, b'⟩, c, d⟩, rfl⟩ := hr
    rw [← h2 ρ, h]
    simp only [can, n3, can1, denL, SV.den]
    rw [run_sub64 x y z a a' b b' c d]
    simp

def n2 : List AK := [.num .u64, .num .u64]
def n4 : List AK := [.num .u64, .num .u64, .num .u64, .num .u64]
def l2 : List AK := [.ints .u64 4, .ints .u64 4]
def l1 : List AK := [.ints .u64 4]

theorem fit_n2 {as : List AV} (h : fit n2 as) : ∃ x y, as = [.n x, .n y] := by
  match as, h with
  | [a, b], h =>
    obtain ⟨h1, h2, -⟩ := h
    cases a <;> cases b <;> first | exact ⟨_, _, rfl⟩ | exact h1.elim | exact h2.elim
  | [], h => exact h.elim
  | [_], h => exact h.2.elim
  | _ :: _ :: _ :: _, h => exact h.2.2.elim

theorem fit_n4 {as : List AV} (h : fit n4 as) : ∃ x y z u, as = [.n x, .n y, .n z, .n u] := by
  match as, h with
  | [a, b, c, d], h =>
    obtain ⟨h1, h2, h3, h4, -⟩ := h
    cases a <;> cases b <;> cases c <;> cases d <;> first | exact ⟨_, _, _, _, rfl⟩ | exact h1.elim | exact h2.elim | exact h3.elim | exact h4.elim
  | [], h => exact h.elim
  | [_], h => exact h.2.elim
  | [_, _], h => exact h.2.2.elim
  | [_, _, _], h => exact h.2.2.2.elim
  | _ :: _ :: _ :: _ :: _ :: _, h => exact h.2.2.2.2.elim

theorem len4 {l : List Int} (h : l.length = 4) : ∃ a b c d, l = [a, b, c, d] := by
  match l, h with
  | [a, b, c, d], _ => exact ⟨a, b, c, d, rfl⟩

theorem fit_l1 {k : IntKind} {n : Nat} {as : List AV} (h : fit [.ints k n] as) : ∃ a, as = [.l a] ∧ a.length = n := by
  match as, h with
  | [a], h => cases a <;> first | exact ⟨_, rfl, h.1⟩ | exact h.1.elim
  | [], h => exact h.elim
  | _ :: _ :: _, h => exact h.2.elim

theorem fit_l2 {k k' : IntKind} {n n' : Nat} {as : List AV} (h : fit [.ints k n, .ints k' n'] as) : ∃ a b, as = [.l a, .l b] ∧ a.length = n ∧ b.length = n' := by
  match as, h with
  | [a, b], h =>
    obtain ⟨h1, h2, -⟩ := h
    cases a <;> cases b <;> first | exact ⟨_, _, rfl, h1, h2⟩ | exact h1.elim | exact h2.elim
  | [], h => exact h.elim
  | [_], h => exact h.2.elim
  | _ :: _ :: _ :: _, h => exact h.2.2.elim

/-- The product of two digits: its upper half, and its lower one. -/
def mul64F : List AV → T SV
  | [.n x, .n y] => .need ((0 ≤ x ∧ x < 18446744073709551616) ∧ (0 ≤ y ∧ y < 18446744073709551616)) (.ret (.tup [.int .u64 (x * y / 18446744073709551616), .int .u64 (x * y % 18446744073709551616)]))
  | _ => .fail "Mul64"

theorem mul64F_ids : ∀ as v, T.Reach (mul64F as) v → ∀ p, v.ids p := by
  intro as v hr p
  unfold mul64F at hr
  split at hr
  · rw [T.reach_need, T.reach_ret] at hr
    obtain ⟨-, rfl⟩ := hr
    exact (closed_two _ _).ids p
  · exact (T.reach_fail hr).elim

/-- A product and two more digits: the lower half, and the upper one. -/
def stepF : List AV → T SV
  | [.n a, .n b, .n c, .n d] => .need ((0 ≤ a ∧ a < 18446744073709551616) ∧ (0 ≤ b ∧ b < 18446744073709551616) ∧ (0 ≤ c ∧ c < 18446744073709551616) ∧ (0 ≤ d ∧ d < 18446744073709551616))
    (.ret (.tup [.int .u64 ((a * b + c + d) % 18446744073709551616), .int .u64 ((a * b + c + d) / 18446744073709551616)]))
  | _ => .fail "step"

theorem stepF_ids : ∀ as v, T.Reach (stepF as) v → ∀ p, v.ids p := by
  intro as v hr p
  unfold stepF at hr
  split at hr
  · rw [T.reach_need, T.reach_ret] at hr
    obtain ⟨-, rfl⟩ := hr
    exact (closed_two _ _).ids p
  · exact (T.reach_fail hr).elim

def plusF : List AV → T SV
  | [.l a, .l b] => .need (U64 a ∧ U64 b) (.ret (.tup [.ints .u64 4 (toL 4 (val a + val b)), .int .u64 ((val a + val b) / pw 4)]))
  | _ => .fail "plus"

theorem plusF_ids : ∀ as v, T.Reach (plusF as) v → ∀ p, v.ids p := by
  intro as v hr p
  unfold plusF at hr
  split at hr
  · rw [T.reach_need, T.reach_ret] at hr
    obtain ⟨-, rfl⟩ := hr
    simp [SV.ids, idsL]
  · exact (T.reach_fail hr).elim

theorem wrap_u64 (x : Int) : IntKind.u64.wrap x = x % 18446744073709551616 := by simp [IntKind.wrap, IntKind.bits, IntKind.signed]
theorem shrI_u64 (x : Int) (k : Nat) (hk : k ≤ 64) : shrI .u64 x (k : Int) = x / 2 ^ k := by
  simp only [shrI, IntKind.bits, Int.toNat_natCast, Nat.min_eq_left hk]
  exact Int.fdiv_eq_ediv_of_nonneg _ (Int.le_of_lt (Int.pow_pos (by decide)))
theorem shr32 (x : Int) : shrI .u64 x 32 = x / 4294967296 := shrI_u64 x 32 (by omega)
theorem andI_low32 (z : Int) (h0 : 0 ≤ z) (h1 : z < 18446744073709551616) : bitsI .and .u64 z 4294967295 = z % 4294967296 := and_low32 z h0 h1

theorem mul64_hi (x y : Int) (hx : 0 ≤ x ∧ x < 18446744073709551616) (hy : 0 ≤ y ∧ y < 18446744073709551616) :
    IntKind.u64.wrap (IntKind.u64.wrap (IntKind.u64.wrap (shrI .u64 x 32 * shrI .u64 y 32) + shrI .u64 (IntKind.u64.wrap (IntKind.u64.wrap (shrI .u64 x 32 * bitsI .and .u64 y 4294967295) + shrI .u64 (IntKind.u64.wrap (bitsI .and .u64 x 4294967295 * bitsI .and .u64 y 4294967295)) 32)) 32) +
      shrI .u64 (IntKind.u64.wrap (bitsI .and .u64 (IntKind.u64.wrap (IntKind.u64.wrap (shrI .u64 x 32 * bitsI .and .u64 y 4294967295) + shrI .u64 (IntKind.u64.wrap (bitsI .and .u64 x 4294967295 * bitsI .and .u64 y 4294967295)) 32)) 4294967295 + IntKind.u64.wrap (bitsI .and .u64 x 4294967295 * shrI .u64 y 32))) 32) = x * y / 18446744073709551616 := by
  rw [andI_low32 x hx.1 hx.2, andI_low32 y hy.1 hy.2]
  simp only [wrap_u64, shr32]
  rw [andI_low32 _ (by omega) (by omega)]
  have := mul64_arith x y hx.1 hx.2 hy.1 hy.2
  rw [← this]
end Go.Sx

/- The symbolic layer: contracts with a premise, from plain arguments to plain results. -/
namespace Go.Sx

def outV : List AK → List AV → SV
  | [k], [a] => can1 k a
  | ks, as => .tup (can ks as)

def ctF (pre : List AV → Prop) (ks : List AK) (res : List AV → List AV) (as : List AV) : T SV := .need (pre as) (.ret (outV ks (res as)))
def ct (ks : List AK) (pre : List AV → Prop) (ks' : List AK) (res : List AV → List AV) : List SV → T SV := spG ks (ctF pre ks' res)

theorem can1_ids (k : AK) (a : AV) (p : Nat → Prop) : (can1 k a).ids p := by
  cases k <;> cases a <;> simp [can1, SV.ids, partsOf_ids]
theorem can_ids : ∀ (ks : List AK) (as : List AV) (p : Nat → Prop), idsL p (can ks as)
  | [], _, p => by simp [can, idsL]
  | _ :: _, [], p => by simp [can, idsL]
  | k :: ks, a :: as, p => by simp [can, idsL, can1_ids, can_ids ks as p]
theorem outV_ids (ks : List AK) (as : List AV) (p : Nat → Prop) : (outV ks as).ids p := by
  unfold outV
  split
  · exact can1_ids _ _ _
  · simp only [SV.ids]; exact can_ids _ _ _

theorem can_closed : ∀ {ks : List AK} {as : List AV}, fit ks as → ∀ v ∈ can ks as, Closed v
  | [], _, _, v, hv => by simp [can] at hv
  | _ :: _, [], _, v, hv => by simp [can] at hv
  | k :: ks, a :: as, h, v, hv => by
    simp only [can, List.mem_cons] at hv
    rcases hv with rfl | hv
    · exact can1_closed h.1
    · exact can_closed h.2 v hv
theorem outV_closed {ks : List AK} {as : List AV} (h : fit ks as) : Closed (outV ks as) := by
  unfold outV
  split
  · exact can1_closed h.1
  · exact closed_tup (can_closed h)

/-- **A function's contract, by its run.** -/
theorem fnOk_ct {P : Program} {G : World → Prop} {cx : Cx} (hc : CxOk P G cx) {gm : Mem} (hgm : GlobIs G gm) {g : FuncId} {fn : Func} {c : Code} (hf : P.funcs[g]? = some fn) (hb : fn.body = some c) (hent : ∀ args w, (callFunc g args).run P w = .ok (.enter g args) w)
    {bl : Blocks} {fuel : Nat} {ks : List AK} {pre : List AV → Prop} {ks' : List AK} {res : List AV → List AV}
    (hbl : ∀ Γ : Gam, Γ.G = G → Γ.G Γ.w0 → GlobOk Γ → Γ.n0 = 0 → BlocksIn P Γ bl c)
    (h : ∀ as, fit ks as → pre as → fit ks' (res as) ∧ (runX cx bl fuel fn c (can ks as) gm).good fun u => u = outV ks' (res as)) : FnOk P G g (ct ks pre ks' res) := by
  refine fnOk_of hc hgm hf hb hent (bl := bl) (fuel := fuel) (fun as v hr p => ?_) hbl fun as v hfit hr => ?_
  · simp only [ctF, T.reach_need, T.reach_ret] at hr
    obtain ⟨-, rfl⟩ := hr
    exact outV_ids _ _ _
  · simp only [ctF, T.reach_need, T.reach_ret] at hr
    obtain ⟨hp, rfl⟩ := hr
    obtain ⟨h1, h2⟩ := h as hfit hp
    exact ⟨outV_closed h1, h2⟩

theorem len8 {l : List Int} (h : l.length = 8) : ∃ a b c d e f g i, l = [a, b, c, d, e, f, g, i] := by
  match l, h with
  | [a, b, c, d, e, f, g, i], _ => exact ⟨a, b, c, d, e, f, g, i, rfl⟩

theorem toL4_fit (n : Int) : (toL 4 n).length = 4 := toL_length 4 n
theorem u64_4 {a b c d : Int} : U64 [a, b, c, d] ↔ (0 ≤ a ∧ a < 18446744073709551616) ∧ (0 ≤ b ∧ b < 18446744073709551616) ∧ (0 ≤ c ∧ c < 18446744073709551616) ∧ (0 ≤ d ∧ d < 18446744073709551616) := by
  simp [U64]

theorem ite_eq_of_iff {p q : Prop} [Decidable p] [Decidable q] (h : p ↔ q) {x y : Int} : (if p then x else y) = if q then x else y := by
  by_cases hp : p
  · rw [if_pos hp, if_pos (h.1 hp)]
  · rw [if_neg hp, if_neg (fun hq => hp (h.2 hq))]

/-- Differences, with what lacks. -/
def subL : List Int → List Int → Int → List Int × Int
  | a :: as, b :: bs, c => ((a - b - c) % 18446744073709551616 :: (subL as bs (if a < b + c then 1 else 0)).1, (subL as bs (if a < b + c then 1 else 0)).2)
  | _, _, c => ([], c)

theorem subL_eq : ∀ (k : Nat) (a b : List Int) (c : Int), a.length = k → b.length = k → U64 a → U64 b → 0 ≤ c → c ≤ 1 → subL a b c = (toL k (val a - val b - c), if val a < val b + c then 1 else 0)
  | 0, a, b, c, ha, hb, _, _, h0, h1 => by
    have : a = [] := by cases a <;> simp_all
    subst this
    have : b = [] := by cases b <;> simp_all
    subst this
    have : c = 0 ∨ c = 1 := by omega
    rcases this with rfl | rfl <;> rfl
  | k + 1, a :: as, b :: bs, c, ha, hb, ua, ub, h0, h1 => by
    obtain ⟨⟨a0, a1⟩, ua⟩ := U64.cons.1 ua
    obtain ⟨⟨b0, b1⟩, ub⟩ := U64.cons.1 ub
    have ih := subL_eq k as bs (if a < b + c then 1 else 0) (by simpa using ha) (by simpa using hb) ua ub (by split <;> omega) (by split <;> omega)
    have e1 : (a + 18446744073709551616 * val as - (b + 18446744073709551616 * val bs) - c) % 18446744073709551616 = (a - b - c) % 18446744073709551616 := by omega
    have e2 : (a + 18446744073709551616 * val as - (b + 18446744073709551616 * val bs) - c) / 18446744073709551616 = val as - val bs - (if a < b + c then 1 else 0) := by split <;> omega
    simp only [subL, ih]
    refine Prod.ext ?_ ?_
    · simp only [toL, val]
      rw [e1, e2]
    · refine ite_eq_of_iff ?_
      simp only [val]
      split <;> omega
end Go.Sx
