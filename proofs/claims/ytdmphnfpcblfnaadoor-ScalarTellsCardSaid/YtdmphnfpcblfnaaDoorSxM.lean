import Derived.Test.YtdmphnfpcblfnaaDoorSxL
/- The symbolic layer, part M: whatever order a region's edges allow. -/
namespace Go.Sx
open Go.RowKit (Below)

section
variable {P : Program} {Γ : Gam} {cx : Cx} {ops : Array Oper} {N : Nat} {F : Foots}

def RunAny (cx : Cx) (ops : Array Oper) (N : Nat) (F : Foots) : Nat → Array Bool → St → (St → Prop) → Prop
  | 0, listed, S, Q => Region.ready .any ops listed = [] ∧ Q S
  | f + 1, listed, S, Q => (Region.ready .any ops listed = [] → Q S) ∧
    ∀ i ∈ Region.ready .any ops listed, ∃ o e A, ops[i]? = some o ∧ Alike A S ∧ T.Reach (opE cx ops (at_ A (N + i)) o) e ∧ Fits (F i) (at_ A (N + i)) o e ∧ RunAny cx ops N F f (listed.setIfInBounds i true) (e.on S o.dst) Q

theorem RunAny.alike {Q : St → Prop} (hQ : ∀ S S', Alike S S' → Q S → Q S') : ∀ (f : Nat) (listed : Array Bool) (S S' : St), Alike S S' → RunAny cx ops N F f listed S Q → RunAny cx ops N F f listed S' Q
  | 0, _, _, _, hs, h => ⟨h.1, hQ _ _ hs h.2⟩
  | f + 1, _, _, _, hs, h => ⟨fun hr => hQ _ _ hs (h.1 hr), fun i hi => by
      obtain ⟨o, e, A, h1, hA, h2, h3, h4⟩ := h.2 i hi
      exact ⟨o, e, A, h1, hA.trans hs, h2, h3, RunAny.alike hQ f _ _ _ (hs.on o.dst e) h4⟩⟩

/-- Operation j waits for operation i, at once or through others. -/
inductive Waits (ops : Array Oper) : Nat → Nat → Prop where
  | one {j o e} : ops[j]? = some o → e ∈ o.after → Region.binds .any e = true → Waits ops j e.on
  | more {j o e i} : ops[j]? = some o → e ∈ o.after → Region.binds .any e = true → Waits ops e.on i → Waits ops j i

/-- Whoever is listed, those that it waits for are. -/
def Shut (ops : Array Oper) (listed : Array Bool) : Prop := ∀ j o, ops[j]? = some o → listed.getD j false = true → ∀ e ∈ o.after, Region.binds .any e = true → listed.getD e.on false = true

theorem Shut.waits {listed : Array Bool} (h : Shut ops listed) {j i : Nat} (hw : Waits ops j i) : listed.getD j false = true → listed.getD i false = true := by
  induction hw with
  | one ho he hb => exact fun hj => h _ _ ho hj _ he hb
  | more ho he hb _ ih => exact fun hj => ih (h _ _ ho hj _ he hb)

theorem Shut.ready {listed : Array Bool} (h : Shut ops listed) {j i : Nat} (hj : j ∈ Region.ready .any ops listed) (hw : Waits ops j i) : listed.getD i false = true := by
  obtain ⟨-, o, ho, hall⟩ := mem_ready.1 hj
  cases hw with
  | one ho' he hb => rw [ho] at ho'; cases ho'; exact hall _ he hb
  | more ho' he hb hw' => rw [ho] at ho'; cases ho'; exact h.waits hw' (hall _ he hb)

theorem Shut.set {listed : Array Bool} (h : Shut ops listed) {j : Nat} (hj : j ∈ Region.ready .any ops listed) : Shut ops (listed.setIfInBounds j true) := by
  intro k o ho hk e he hb
  by_cases hkj : k = j
  · subst hkj
    obtain ⟨-, o', ho', hall⟩ := mem_ready.1 hj
    rw [ho] at ho'; cases ho'
    exact getD_set_true (hall e he hb)
  · rw [getD_set_ne false (Ne.symm hkj)] at hk
    exact getD_set_true (h k o ho hk e he hb)

theorem ready_unlisted {listed : Array Bool} {i : Nat} (h : i ∈ Region.ready .any ops listed) : ¬ listed.getD i false = true := by
  have h0 := (mem_ready.1 h).1
  rcases Nat.lt_or_ge i listed.size with h' | h'
  · simp [h'] at h0 ⊢; exact h0
  · simp [Array.getElem?_eq_none h'] at h0

/-- **An operation that may come up now may be taken first.** -/
theorem RunAny.first {Q : St → Prop} (hQ : ∀ S S', Alike S S' → Q S → Q S') {i : Nat} {oi : Oper} {ei : Eff} (hi : ops[i]? = some oi) : ∀ (f : Nat) (listed : Array Bool) (S A : St), Shut ops listed →
    (∀ j oj, ops[j]? = some oj → j ≠ i → listed.getD j true = false → ¬ Waits ops j i → oi.apart ops oj = true ∧ Indep (F i) (F j)) →
    i ∈ Region.ready .any ops listed → Alike A S → T.Reach (opE cx ops (at_ A (N + i)) oi) ei → Fits (F i) (at_ A (N + i)) oi ei →
    RunAny cx ops N F f (listed.setIfInBounds i true) (ei.on S oi.dst) Q → RunAny cx ops N F (f + 1) listed S Q := by
  intro f
  induction f with
  | zero =>
    intro listed S A _ _ hr hA hy hfit H
    refine ⟨fun h => (by rw [h] at hr; cases hr), fun j hj => ?_⟩
    by_cases hji : j = i
    · subst hji; exact ⟨oi, ei, A, hi, hA, hy, hfit, H⟩
    · have := ready_mono hj hji
      rw [H.1] at this
      cases this
  | succ f ih =>
    intro listed S A hshut hfree hr hA hy hfit H
    refine ⟨fun h => (by rw [h] at hr; cases hr), fun j hj => ?_⟩
    by_cases hji : j = i
    · subst hji; exact ⟨oi, ei, A, hi, hA, hy, hfit, H⟩
    · obtain ⟨oj, ej, B, hoj, hB, hyj, hfj, h1⟩ := H.2 j (ready_mono hj hji)
      obtain ⟨hjun, -⟩ := mem_ready.1 hj
      have hnw : ¬ Waits ops j i := fun hw => ready_unlisted hr (hshut.ready hj hw)
      obtain ⟨hap, hin⟩ := hfree j oj hoj hji hjun hnw
      have hap' : oj.apart ops oi = true := by
        have := hap
        simp only [Oper.apart, Bool.and_eq_true] at this ⊢
        obtain ⟨a, b⟩ := this
        constructor
        · cases hdj : oj.dst with
          | none => rfl
          | some d =>
            rw [hdj] at b
            simp only [Bool.and_eq_true]
            refine ⟨b, ?_⟩
            cases hdi : oi.dst with
            | none => rfl
            | some d' =>
              rw [hdi] at a
              simp only [Bool.and_eq_true, hdj] at a
              have := a.2
              simp only [bne_iff_ne, ne_eq, Option.some.injEq] at this ⊢
              exact fun e => this e.symm
        · cases hdi : oi.dst with
          | none => rfl
          | some d => rw [hdi] at a; simp only [Bool.and_eq_true] at a; exact a.1
      -- j does the same without i
      have hlen : ∀ (e : Eff) (d : Option Tmp), (e.on S d).tmps.length = S.tmps.length := fun e d => by rw [Eff.on_tmps]; cases d <;> simp
      have hglob : ∀ {F F' : List Nat × List Nat} {e : Eff} {d : Option Tmp}, Indep F F' → (∀ i b, e.w = some (i, b) → i ∈ F.2) → ∀ g, look (e.on S d).mem (gid g) = look S.mem (gid g) := by
        intro F F' e d hin hw g
        rw [Eff.on_mem, look_memE]
        cases he : e.w with
        | none => rfl
        | some kb =>
          obtain ⟨k, b⟩ := kb
          have := (hin.a k (hw k b he)).2.2
          dsimp only
          rw [if_neg (by unfold gid; omega)]
      have hlook : ∀ {F F' : List Nat × List Nat} {e : Eff} {d : Option Tmp}, Indep F F' → (∀ i b, e.w = some (i, b) → i ∈ F.2) → ∀ i ∈ F'.1, look (e.on S d).mem i = look S.mem i := by
        intro F F' e d hin hw i hi
        rw [Eff.on_mem, look_memE]
        cases he : e.w with
        | none => rfl
        | some kb =>
          obtain ⟨k, b⟩ := kb
          dsimp only
          rw [if_neg]
          rintro rfl
          exact (hin.a k (hw k b he)).1 hi
      obtain ⟨q1, q2⟩ := opE_apart (cx := cx) (A := B) (S := S) (N := N + j) hap (fun i hi => by rw [hB.mem]; exact hlook hin hfit.writes i hi) (fun g => by rw [hB.mem, hglob hin hfit.writes g]) hfj.touch
      have hyj' : T.Reach (opE cx ops (at_ (mixS B S oi.dst) (N + j)) oj) ej := by rw [q1]; exact hyj
      have hfj' : Fits (F j) (at_ (mixS B S oi.dst) (N + j)) oj ej := ⟨by rw [q2]; exact hfj.touch, hfj.writes⟩
      have hBS : Alike (mixS B S oi.dst) S := mix_alike hB (hlen ei oi.dst) fun t ht => getS_on fun d hd => ht d hd
      -- i does the same behind j
      obtain ⟨r1, r2⟩ := opE_apart (cx := cx) (A := A) (S := ej.on S oj.dst) (N := N + i) hap' (fun i hi => by rw [hA.mem]; exact (hlook hin.symm hfj.writes i hi).symm) (fun g => by rw [hA.mem, hglob hin.symm hfj.writes g]) hfit.touch
      have hAS : Alike (mixS A (ej.on S oj.dst) oj.dst) (ej.on S oj.dst) := mix_alike hA (hlen ej oj.dst).symm fun t ht => (getS_on fun d hd => ht d hd).symm
      refine ⟨oj, ej, mixS B S oi.dst, hoj, hBS, hyj', hfj', ih (listed.setIfInBounds j true) (ej.on S oj.dst) (mixS A (ej.on S oj.dst) oj.dst) (hshut.set hj) ?_ (ready_mono hr (Ne.symm hji)) hAS (by rw [r1]; exact hy) ⟨by rw [r2]; exact hfit.touch, hfit.writes⟩ ?_⟩
      · intro k ok hk hki hun hno
        refine hfree k ok hk hki ?_ hno
        by_cases hjk : j = k
        · subst hjk; exact hjun
        · rw [getD_set_ne true hjk] at hun; exact hun
      · rw [Array.setIfInBounds_comm _ _ hji]
        refine RunAny.alike hQ f _ _ _ (on_comm (Oper.apart_spec hap).2.1 ?_) h1
        intro k b l c hk hl e
        subst e
        exact (hin.a k (hfit.writes k b hk)).2.1 (hfj.writes k c hl)

/-- All orders are the world's. -/
theorem RunAny.sound (hc : CxOk P Γ.G cx) (hg : GlobOk Γ) (h0 : Γ.G Γ.w0) (hN : Γ.n0 ≤ N) {Q : St → Prop} {Q' : Exit → Act → World → Prop} (hQ : ∀ ρ S a w, Rel Γ ρ S a w → Q S → Q' .normal a w) : ∀ (f : Nat) (listed : Array Bool) (ρ : Env) (S : St) (a : Act) (w : World),
    Γ.n0 ≤ S.next → Rel Γ ρ S a w → RunAny cx ops N F f listed S Q → wpAny P .any ops Q' f listed a w
  | 0, _, ρ, _, _, _, _, hrel, h => ⟨h.1, hQ ρ _ _ _ hrel h.2⟩
  | f + 1, listed, ρ, S, a, w, hSn, hrel, h => ⟨fun hr => hQ ρ _ _ _ hrel (h.1 hr), fun i hi => by
      obtain ⟨o, e, A, h1, hA, h2, h3, h4⟩ := h.2 i hi
      have hrel' : Rel Γ ρ (at_ A (N + i)) a w := (hA.symm.rel hrel).next (by show Γ.n0 ≤ N + i; omega)
      unfold wpOp
      rw [h1]
      simp only
      rcases opE_cases hrel' h2 with ⟨hw, he⟩ | ⟨hw, rfl⟩
      · rw [if_pos hw]
        refine .inl (effS_sound hc hg h0 hrel' he (n' := S.next) hSn fun ρ' a' w' hr' => ?_)
        have hon : Alike ({ e.on (at_ A (N + i)) o.dst with next := S.next } : St) (e.on S o.dst) := by
          have := (hA.at_ S.next).on o.dst e
          refine ⟨?_, fun t => ?_, fun k => ?_, by rw [Eff.on_next]⟩
          · have := this.len; rw [Eff.on_tmps] at this ⊢; exact this
          · have := this.tmps t; rw [Eff.on_tmps] at this ⊢; exact this
          · have := this.mem k; rw [Eff.on_mem] at this ⊢; exact this
        have hr' := hon.rel hr'
        exact RunAny.sound hc hg h0 hN hQ f _ ρ' _ a' w' (by rw [Eff.on_next]; exact hSn) hr' h4
      · rw [if_neg (by rw [hw]; simp)]
        have := hrel.put o.dst (v := .raw undef) (by simp only [wf]) (by simp only [SV.ids])
        simp only [SV.den] at this
        exact RunAny.sound hc hg h0 hN hQ f _ ρ _ _ w (by rw [St.put_next]; exact hSn) this h4⟩
end

/-! ### The run in the text's order, and the check -/
def lexE (cx : Cx) (ops : Array Oper) (N : Nat) : List Oper → Nat → St → T (St × List (List Nat × List Nat))
  | [], _, S => .ret (S, [])
  | o :: rest, k, S0 => (refS ops S0 o).bind fun S => (opE cx ops (at_ S (N + k)) o).bind fun e => (lexE cx ops N rest (k + 1) (e.on S o.dst)).bind fun r =>
    .ret (r.1, (touch (at_ S (N + k)) o, match e.w with
      | some (i, _) => [i]
      | none => []) :: r.2)

def memN (x : Nat) : List Nat → Bool
  | [] => false
  | y :: l => match Nat.beq y x with
    | true => true
    | false => memN x l

theorem memN_iff {x : Nat} {l : List Nat} : memN x l = true ↔ x ∈ l := by
  induction l with
  | nil => simp [memN]
  | cons y l ih =>
    simp only [memN]
    split
    · rename_i h; have := Nat.eq_of_beq_eq_true h; simp [this]
    · rename_i h
      have : ¬ y = x := fun e => by rw [e, Nat.beq_refl] at h; cases h
      simp [ih, Ne.symm this]

def allN (f : Nat → Bool) : List Nat → Bool
  | [] => true
  | x :: l => match f x with
    | true => allN f l
    | false => false

theorem allN_iff {f : Nat → Bool} {l : List Nat} : allN f l = true ↔ ∀ x ∈ l, f x = true := by
  induction l with
  | nil => simp [allN]
  | cons x l ih =>
    simp only [allN]
    split
    · rename_i h; simp [ih, h]
    · rename_i h; simp [h]

def indepB (F F' : List Nat × List Nat) : Bool :=
  allN (fun i => !(memN i F'.1) && !(memN i F'.2) && Nat.blt i 1000000) F.2 && allN (fun i => !(memN i F.1) && !(memN i F.2) && Nat.blt i 1000000) F'.2

theorem indepB_spec {F F' : List Nat × List Nat} (h : indepB F F' = true) : Indep F F' := by
  simp only [indepB, Bool.and_eq_true, allN_iff, Bool.not_eq_true'] at h
  have hm : ∀ {x : Nat} {l : List Nat}, memN x l = false → x ∉ l := fun h hm => by rw [memN_iff.2 hm] at h; cases h
  exact ⟨fun i hi => ⟨hm (h.1 i hi).1.1, hm (h.1 i hi).1.2, Nat.le_of_ble_eq_true (h.1 i hi).2⟩, fun i hi => ⟨hm (h.2 i hi).1.1, hm (h.2 i hi).1.2, Nat.le_of_ble_eq_true (h.2 i hi).2⟩⟩

/-- Of each operation the numbers of all those that it waits for: told, and checked. -/
def addN (x : Nat) (s : List Nat) : List Nat := match memN x s with
  | true => s
  | false => x :: s

def joinN : List Nat → List Nat → List Nat
  | [], s => s
  | x :: l, s => joinN l (addN x s)

def waitsL (ops : Array Oper) : List (List Nat) :=
  ops.toList.foldl (init := []) fun acc o => acc ++ [o.after.toList.foldl (init := []) fun s e => match Region.binds .any e with
    | true => addN e.on (joinN (acc.getD e.on []) s)
    | false => s]

def waitsOk (ops : List Oper) (W : List (List Nat)) : Bool :=
  ops.zipIdx.all fun p => (p.1.after.toList.all fun e => !(Region.binds .any e) || Nat.blt e.on p.2) &&
    allN (fun x => p.1.after.toList.any fun e => Region.binds .any e && (Nat.beq e.on x || memN x (W.getD e.on []))) (W.getD p.2 [])

/-- Pairs: the one waits for the other, or they are apart. -/
def pairOk (ops : Array Oper) (W : List (List Nat)) (i : Nat) (oi : Oper) (Fi : List Nat × List Nat) : List Oper → List (List Nat × List Nat) → Nat → Bool
  | oj :: os, Fj :: fs, j => match memN i (W.getD j []) with
    | true => pairOk ops W i oi Fi os fs (j + 1)
    | false => match oi.apart ops oj, indepB Fi Fj with
      | true, true => pairOk ops W i oi Fi os fs (j + 1)
      | _, _ => false
  | [], _, _ => true
  | _, [], _ => false

def pairsOk (ops : Array Oper) (W : List (List Nat)) : List Oper → List (List Nat × List Nat) → Nat → Bool
  | oi :: os, Fi :: fs, i => match pairOk ops W i oi Fi os fs (i + 1) with
    | true => pairsOk ops W os fs (i + 1)
    | false => false
  | [], _, _ => true
  | _, [], _ => false

def drawS (cx : Cx) (ops : Array Oper) (S : St) : T St :=
  (lexE cx ops S.next ops.toList 0 S).bind fun r => match waitsOk ops.toList (waitsL ops), pairsOk ops (waitsL ops) ops.toList r.2 0 with
    | true, true => .ret { r.1 with next := S.next + ops.size }
    | _, _ => .fail "a region whose order shows"

section
variable {P : Program} {Γ : Gam} {cx : Cx} {ops : Array Oper} {N : Nat}

theorem waitsOk_at {W : List (List Nat)} (h : waitsOk ops.toList W = true) {j : Nat} {o : Oper} (ho : ops[j]? = some o) :
    (∀ e ∈ o.after, Region.binds .any e = true → e.on < j) ∧ ∀ x ∈ W.getD j [], ∃ e ∈ o.after, Region.binds .any e = true ∧ (e.on = x ∨ x ∈ W.getD e.on []) := by
  simp only [waitsOk, List.all_eq_true] at h
  have h1 := h (o, j) (by
    rw [List.mem_iff_getElem?]
    exact ⟨j, by simp [ho]⟩)
  simp only [Bool.and_eq_true, List.all_eq_true, allN_iff, List.any_eq_true] at h1
  refine ⟨fun e he hb => ?_, fun x hx => ?_⟩
  · have := h1.1 e (by simpa using he)
    simp only [hb, Bool.not_true, Bool.false_or] at this
    exact Nat.le_of_ble_eq_true this
  · obtain ⟨e, he, h2⟩ := h1.2 x hx
    simp only [Bool.or_eq_true, memN_iff] at h2
    refine ⟨e, by simpa using he, h2.1, h2.2.imp (fun h => Nat.eq_of_beq_eq_true h) id⟩

theorem waits_lt {W : List (List Nat)} (h : waitsOk ops.toList W = true) {j i : Nat} (hw : Waits ops j i) : i < j := by
  induction hw with
  | one ho he hb => exact (waitsOk_at h ho).1 _ he hb
  | more ho he hb _ ih => have := (waitsOk_at h ho).1 _ he hb; omega

theorem waits_of_mem {W : List (List Nat)} (h : waitsOk ops.toList W = true) : ∀ (j : Nat) (o : Oper) (i : Nat), ops[j]? = some o → i ∈ W.getD j [] → Waits ops j i := by
  intro j
  induction j using Nat.strongRecOn with
  | _ j ih =>
    intro o i ho hi
    obtain ⟨h1, h2⟩ := waitsOk_at h ho
    obtain ⟨e, he, hb, hx⟩ := h2 i hi
    rcases hx with rfl | hx
    · exact .one ho he hb
    · have hlt := h1 e he hb
      have hj := (Array.getElem?_eq_some_iff.1 ho).1
      obtain ⟨o', ho'⟩ : ∃ o', ops[e.on]? = some o' := ⟨ops[e.on]'(by omega), by simp [show e.on < ops.size by omega]⟩
      exact .more ho he hb (ih e.on hlt o' i ho' hx)

theorem pairOk_spec {W : List (List Nat)} {i : Nat} {oi : Oper} {Fi : List Nat × List Nat} : ∀ (os : List Oper) (fs : List (List Nat × List Nat)) (j : Nat), pairOk ops W i oi Fi os fs j = true →
    ∀ k ok, os[k]? = some ok → i ∈ W.getD (j + k) [] ∨ ∃ Fk, fs[k]? = some Fk ∧ oi.apart ops ok = true ∧ Indep Fi Fk
  | [], _, _, _, k, ok, hk => by simp at hk
  | oj :: os, [], j, h, k, ok, hk => by simp [pairOk] at h
  | oj :: os, Fj :: fs, j, h, k, ok, hk => by
    simp only [pairOk] at h
    split at h
    · rename_i hm
      cases k with
      | zero => exact .inl (memN_iff.1 hm)
      | succ k =>
        have := pairOk_spec os fs (j + 1) h k ok (by simpa using hk)
        rw [show j + 1 + k = j + (k + 1) from by omega] at this
        simpa using this
    · split at h
      · rename_i ha hi
        cases k with
        | zero => simp at hk; subst hk; exact .inr ⟨Fj, rfl, ha, indepB_spec hi⟩
        | succ k =>
          have := pairOk_spec os fs (j + 1) h k ok (by simpa using hk)
          rw [show j + 1 + k = j + (k + 1) from by omega] at this
          simpa using this
      · cases h

theorem lex_runAny {F : Foots} (hW : waitsOk ops.toList (waitsL ops) = true) {Q : St → Prop} (hQ : ∀ S S', Alike S S' → Q S → Q S') : ∀ (l : List Oper) (k : Nat) (listed : Array Bool) (S S' : St) (fs : List (List Nat × List Nat)),
    (∀ j, l[j]? = ops[k + j]?) → (∀ j, listed.getD j false = true ↔ j < k ∧ j < ops.size) → listed.size = ops.size → (∀ j f, fs[j]? = some f → F (k + j) = f) → T.Reach (lexE cx ops N l k S) (S', fs) → pairsOk ops (waitsL ops) l fs k = true → Q S' →
    RunAny cx ops N F l.length listed S Q
  | [], k, listed, S, S', fs, hl, hls, hsz, hF, hr, hp, hq => by
    simp only [lexE, T.reach_ret, Prod.mk.injEq] at hr
    obtain ⟨rfl, -⟩ := hr
    refine ⟨?_, hq⟩
    rw [List.eq_nil_iff_forall_not_mem]
    intro i hi
    obtain ⟨h0, o, ho, -⟩ := mem_ready.1 hi
    have hlt : i < ops.size := (Array.getElem?_eq_some_iff.1 ho).1
    have : i < k := by
      rcases Nat.lt_or_ge i k with h | h
      · exact h
      · have := hl (i - k)
        rw [show k + (i - k) = i from by omega, ho] at this
        simp at this
    exact ready_unlisted hi ((hls i).2 ⟨this, hlt⟩)
  | o :: l, k, listed, S, S', fs, hl, hls, hsz, hF, hr, hp, hq => by
    simp only [lexE, T.reach_bind, T.reach_ret, Prod.mk.injEq] at hr
    obtain ⟨A, hA0, e, he, ⟨S1, fs1⟩, h1, hS, rfl⟩ := hr
    have hA := refS_alike hA0
    simp only at hS
    subst hS
    have h0 : ops[k]? = some o := by simpa using (hl 0).symm
    have hkl : k < ops.size := (Array.getElem?_eq_some_iff.1 h0).1
    simp only [pairsOk] at hp
    split at hp
    · rename_i hpk
      have hFk := hF 0 _ (by simp; rfl)
      simp only [Nat.add_zero] at hFk
      have hready : k ∈ Region.ready .any ops listed := by
        rw [mem_ready]
        refine ⟨?_, o, h0, fun e he hb => ?_⟩
        · have hk : ¬ listed.getD k false = true := fun h => by have := ((hls k).1 h).1; omega
          have hlt : k < listed.size := by omega
          simp [hlt] at hk ⊢
          exact hk
        · have := waits_lt hW (Waits.one h0 he hb)
          exact (hls _).2 ⟨this, by omega⟩
      have hshut : Shut ops listed := by
        intro j oj hj hjl e he hb
        have h2 := waits_lt hW (Waits.one hj he hb)
        have h3 := (hls j).1 hjl
        exact (hls _).2 ⟨by omega, by omega⟩
      refine RunAny.alike hQ _ _ _ _ hA (RunAny.first hQ h0 l.length listed A A hshut ?_ hready (Alike.refl _) he ?_ ?_)
      · intro j oj hj hjk hun hnw
        have hjlt : j < ops.size := (Array.getElem?_eq_some_iff.1 hj).1
        have hgt : k < j := by
          rcases Nat.lt_or_ge j k with h | h
          · have := (hls j).2 ⟨h, hjlt⟩
            have hlt : j < listed.size := by omega
            simp [hlt] at this hun
            rw [this] at hun; cases hun
          · omega
        have hol : l[j - (k + 1)]? = some oj := by
          have := hl (j - (k + 1) + 1)
          rw [show k + (j - (k + 1) + 1) = j from by omega, hj] at this
          simpa using this
        have := pairOk_spec l fs1 (k + 1) hpk (j - (k + 1)) oj hol
        rw [show k + 1 + (j - (k + 1)) = j from by omega] at this
        rcases this with hm | ⟨Fk, hf, ha, hi⟩
        · exact absurd (waits_of_mem hW j oj k hj hm) hnw
        · refine ⟨ha, ?_⟩
          have hFj := hF (j - (k + 1) + 1) Fk (by simpa using hf)
          rw [show k + (j - (k + 1) + 1) = j from by omega] at hFj
          rw [hFk, hFj]; exact hi
      · rw [hFk]
        refine ⟨fun i hi => hi, fun i b hw => ?_⟩
        simp [hw]
      · refine lex_runAny hW hQ l (k + 1) _ _ S' fs1 (fun j => by have := hl (j + 1); simpa [Nat.add_assoc, Nat.add_comm 1 j] using this) ?_ (by simp [hsz]) (fun j f hf => ?_) h1 hp hq
        · intro j
          by_cases hjk : k = j
          · subst hjk
            have hlt : k < listed.size := by omega
            simp [hlt]; omega
          · rw [getD_set_ne false hjk, hls]; omega
        · have := hF (j + 1) f (by simpa using hf)
          rw [show k + 1 + j = k + (j + 1) from by omega]; exact this
    · cases hp

theorem drawS_sound (hc : CxOk P Γ.G cx) (hg : GlobOk Γ) (h0 : Γ.G Γ.w0) : DrawOk P Γ (drawS cx) := by
  refine ⟨fun ops S S' id hr => ?_⟩
  intro ρ a w hrel
  unfold drawS at hr
  rw [T.reach_bind] at hr
  obtain ⟨⟨S1, fs⟩, h1, h2⟩ := hr
  split at h2
  · rename_i hW hp
    rw [T.reach_ret] at h2; subst h2
    refine wp_region_any hc.mixed ?_
    have hrel' : Rel Γ ρ S a { w with drawn := w.drawn + 1 } := hrel.onto ⟨rfl, rfl, rfl, Nat.le_refl _, fun _ _ => rfl⟩
    have hrun := lex_runAny (cx := cx) (N := S.next) (F := fun i => fs.getD i ([], [])) hW (Q := fun S2 => Alike S1 S2) (fun S2 S3 h23 h => h.trans h23) ops.toList 0 (Array.replicate ops.size false) S S1 fs (by simp)
      (fun j => by by_cases hj : j < ops.size <;> simp [hj]) (by simp) (fun j f hf => by simp [List.getD, hf]) h1 hp (Alike.refl _)
    have := RunAny.sound hc hg h0 (N := S.next) (ops := ops) hrel.nx (Q := fun S2 => Alike S1 S2) (Q' := fun x a' w' => x = Ex.normal.to ∧ ∃ ρ', Rel Γ ρ' { S1 with next := S.next + ops.size } a' w')
      (fun ρ2 S2 a2 w2 hr2 h12 => ⟨rfl, ρ2, (h12.symm.rel hr2).next (by have := hrel.nx; omega)⟩) ops.toList.length (Array.replicate ops.size false) ρ S a _ hrel.nx hrel' hrun
    simpa using this
  · exact (T.reach_fail h2).elim
end
end Go.Sx
