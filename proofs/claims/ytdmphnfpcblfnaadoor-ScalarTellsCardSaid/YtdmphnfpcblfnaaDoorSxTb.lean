import Derived.Test.YtdmphnfpcblfnaaDoorSxLp
/- The symbolic layer: contracts at points (tables), and runs in which nothing is open. -/
namespace Go.Sx

def AV.same : AV → AV → Bool
  | .n x, .n y => decide (x = y)
  | .l x, .l y => decide (x = y)
  | .b x, .b y => x == y
  | .a x, .a y => decide (x = y)
  | _, _ => false

theorem AV.same_eq {a b : AV} (h : a.same b = true) : a = b := by
  cases a <;> cases b <;> simp_all [AV.same]

def sameL : List AV → List AV → Bool
  | [], [] => true
  | a :: as, b :: bs => match a.same b with
    | true => sameL as bs
    | false => false
  | _, _ => false

theorem sameL_eq : ∀ {a b : List AV}, sameL a b = true → a = b
  | [], [], _ => rfl
  | [], _ :: _, h => by cases h
  | _ :: _, [], h => by cases h
  | a :: as, b :: bs, h => by
    simp only [sameL] at h
    split at h
    · rename_i h1; rw [AV.same_eq h1, sameL_eq h]
    · cases h

def rowAt : List (List AV × List AV) → List AV → Option (List AV)
  | [], _ => none
  | (k, v) :: l, as => match sameL k as with
    | true => some v
    | false => rowAt l as

theorem rowAt_mem : ∀ {l : List (List AV × List AV)} {as v : List AV}, rowAt l as = some v → (as, v) ∈ l
  | [], _, _, h => by cases h
  | (k, u) :: l, as, v, h => by
    simp only [rowAt] at h
    split at h
    · rename_i h1; cases h; rw [sameL_eq h1]; simp
    · exact List.mem_cons_of_mem _ (rowAt_mem h)

def tabF (ks' : List AK) (l : List (List AV × List AV)) (as : List AV) : T SV := match rowAt l as with
  | some rs => .ret (outV ks' rs)
  | none => .fail "a table without this row"

/-- **A contract at points.** -/
theorem FnOk.tab {P : Program} {G : World → Prop} {g : FuncId} {ks : List AK} {pre : List AV → Prop} {ks' : List AK} {res : List AV → List AV} (h : FnOk P G g (ct ks pre ks' res)) (l : List (List AV × List AV))
    (hl : ∀ row ∈ l, pre row.1 ∧ res row.1 = row.2) : FnOk P G g (spG ks (tabF ks' l)) := by
  have key : ∀ args v, T.Reach (spG ks (tabF ks' l) args) v → T.Reach (ct ks pre ks' res args) v := by
    intro args v hr
    obtain ⟨as, ha, hr⟩ := spG_reach hr
    unfold tabF at hr
    split at hr
    · rename_i rs hrow
      rw [T.reach_ret] at hr; subst hr
      obtain ⟨h1, h2⟩ := hl _ (rowAt_mem hrow)
      unfold ct spG
      rw [ha]
      simp only [ctF, T.reach_need, T.reach_ret]
      simp only at h1 h2
      exact ⟨h1, by rw [h2]⟩
    · exact (T.reach_fail hr).elim
  exact ⟨fun args v hw hr => h.closed args v hw (key args v hr), fun args v hr => h.ids args v (key args v hr), h.enters, fun args v hw hr => h.call args v hw (key args v hr)⟩

theorem FnOk.tab1 {P : Program} {G : World → Prop} {g : FuncId} {ks : List AK} {pre : List AV → Prop} {ks' : List AK} {res : List AV → List AV} (h : FnOk P G g (ct ks pre ks' res)) (k v : List AV) (h1 : pre k) (h2 : res k = v) :
    FnOk P G g (spG ks (tabF ks' [(k, v)])) := h.tab _ fun row hr => by
  rw [List.mem_singleton] at hr
  subst hr
  exact ⟨h1, h2⟩
theorem FnOk.tab2 {P : Program} {G : World → Prop} {g : FuncId} {ks : List AK} {pre : List AV → Prop} {ks' : List AK} {res : List AV → List AV} (h : FnOk P G g (ct ks pre ks' res)) (k v k' v' : List AV) (h1 : pre k) (h2 : res k = v) (h3 : pre k') (h4 : res k' = v') :
    FnOk P G g (spG ks (tabF ks' [(k, v), (k', v')])) := h.tab _ fun row hr => by
  simp only [List.mem_cons, List.not_mem_nil, or_false] at hr
  rcases hr with rfl | rfl
  · exact ⟨h1, h2⟩
  · exact ⟨h3, h4⟩

/-- A run in which nothing is open, and that comes to true. -/
def comesTrue : T SV → Bool
  | .ret v => match v with
    | .tt => true
    | .bool b => b
    | _ => false
  | .ite b t e => match b with
    | true => comesTrue t
    | false => comesTrue e
  | .need _ _ => false
  | .fail _ => false

theorem comesTrue_good : ∀ {t : T SV}, comesTrue t = true → t.good fun u => ∀ ρ, u.den ρ = .bool true
  | .ret v, h => by
    intro ρ
    cases v <;> simp [comesTrue] at h <;> simp [SV.den, h]
  | .ite b t e, h => by
    cases b with
    | true => exact ⟨fun _ => comesTrue_good h, fun hc => by cases hc⟩
    | false => exact ⟨fun hc => (by cases hc), fun _ => comesTrue_good h⟩
  | .need _ _, h => by cases h
  | .fail _, h => by cases h

/-- A function without arguments that answers true. -/
def upF : List SV → T SV
  | [] => .ret .tt
  | _ => .fail "arguments"

theorem upF_of {P : Program} {G : World → Prop} {cx : Cx} (hc : CxOk P G cx) {gm : Mem} (hgm : GlobIs G gm) {g : FuncId} {fn : Func} {c : Code} (hf : P.funcs[g]? = some fn) (hb : fn.body = some c) (hent : ∀ args w, (callFunc g args).run P w = .ok (.enter g args) w)
    {bl : Blocks} {fuel : Nat} (hbl : ∀ Γ : Gam, Γ.G = G → Γ.G Γ.w0 → GlobOk Γ → Γ.n0 = 0 → BlocksIn P Γ bl c)
    (h : (runX cx bl fuel fn c [] gm).good fun u => ∀ ρ, u.den ρ = .bool true) : FnOk P G g upF := by
  have ht : Closed .tt := ⟨fun _ _ => by simp [SV.den], fun _ => by simp [SV.ids], by simp only [wf]⟩
  have key : ∀ args v, T.Reach (upF args) v → args = [] ∧ v = .tt := by
    intro args v hr
    unfold upF at hr
    split at hr
    · rw [T.reach_ret] at hr; exact ⟨rfl, hr⟩
    · exact (T.reach_fail hr).elim
  refine ⟨fun args v hw hr => ?_, fun args v hr p => ?_, hent, fun args v hw hr ρ w hG => ?_⟩
  · obtain ⟨-, rfl⟩ := key args v hr; exact ht
  · obtain ⟨-, rfl⟩ := key args v hr; exact ht.ids p
  · obtain ⟨rfl, rfl⟩ := key args v hr
    have := fn_ok_den hc hgm hf hb (args := []) (v := .tt) (fun x hx => by cases hx) ht hbl (valOf_good (Q := fun u => ∀ ρ, u.den ρ = SV.den ρ .tt) (T.good_mono h fun u hu ρ => by rw [hu ρ]; simp [SV.den])) ρ w hG
    exact this
/-- 'good', shut: so that no run is unfolded where it is only handed on. -/
structure Gd {α : Type} (t : T α) (Q : α → Prop) : Prop where
  good : t.good Q

theorem Gd.of_run {α : Type} {Q : α → Prop} {t m : T α} {ds : List Bool} (h : prune t ds = m) (hm : Gd m Q) : Gd t Q := ⟨good_of_prune t ds (by rw [h]; exact hm.good)⟩
theorem Gd.of_eq {α : Type} {Q : α → Prop} {t m : T α} (h : t = m) (hm : Gd m Q) : Gd t Q := h ▸ hm
theorem Gd.of_true {t : T SV} (h : comesTrue t = true) : Gd t fun u => ∀ ρ, u.den ρ = .bool true := ⟨comesTrue_good h⟩

/-- **A function's contract, by its run, with rules for its loops; the value as it reads; the run shut.** -/
theorem fnOk_gd {P : Program} {G : World → Prop} {cx : Cx} (hc : CxOk P G cx) {gm : Mem} (hgm : GlobIs G gm) {g : FuncId} {fn : Func} {c : Code} (hf : P.funcs[g]? = some fn) (hb : fn.body = some c) (hent : ∀ args w, (callFunc g args).run P w = .ok (.enter g args) w)
    {fuel : Nat} {ks : List AK} {pre : List AV → Prop} {ks' : List AK} {res : List AV → List AV}
    (h : ∀ xs, fit ks xs → pre xs → ∃ bl : Blocks, (∀ Γ : Gam, Γ.G = G → Γ.G Γ.w0 → GlobOk Γ → Γ.n0 = 0 → BlocksIn P Γ bl c) ∧ fit ks' (res xs) ∧ Gd (runX cx bl fuel fn c (can ks xs) gm) fun u => ∀ ρ, u.den ρ = (outV ks' (res xs)).den ρ) : FnOk P G g (ct ks pre ks' res) :=
  fnOk_den hc hgm hf hb hent fun xs h1 h2 => by
    obtain ⟨bl, h3, h4, h5⟩ := h xs h1 h2
    exact ⟨bl, h3, h4, h5.good⟩

theorem fit_l3 {k k' k'' : IntKind} {n n' n'' : Nat} {xs : List AV} (h : fit [.ints k n, .ints k' n', .ints k'' n''] xs) : ∃ a b c, xs = [.l a, .l b, .l c] ∧ a.length = n ∧ b.length = n' ∧ c.length = n'' := by
  match xs, h with
  | [a, b, c], h =>
    obtain ⟨h1, h2, h3, -⟩ := h
    cases a <;> cases b <;> cases c <;> first | exact ⟨_, _, _, rfl, h1, h2, h3⟩ | exact h1.elim | exact h2.elim | exact h3.elim
  | [], h => exact h.elim
  | [_], h => exact h.2.elim
  | [_, _], h => exact h.2.2.elim
  | _ :: _ :: _ :: _ :: _, h => exact h.2.2.2.elim

theorem fit_l4 {k k' k'' k''' : IntKind} {n n' n'' n''' : Nat} {xs : List AV} (h : fit [.ints k n, .ints k' n', .ints k'' n'', .ints k''' n'''] xs) : ∃ a b c d, xs = [.l a, .l b, .l c, .l d] ∧ a.length = n ∧ b.length = n' ∧ c.length = n'' ∧ d.length = n''' := by
  match xs, h with
  | a :: l, h =>
    obtain ⟨b, c, d, rfl, h2, h3, h4⟩ := fit_l3 (xs := l) h.2
    have h1 := h.1
    cases a <;> first | exact ⟨_, _, _, _, rfl, h1, h2, h3, h4⟩ | exact h1.elim
  | [], h => exact h.elim
theorem fit_0 {xs : List AV} (h : fit [] xs) : xs = [] := by
  cases xs with
  | nil => rfl
  | cons a l => exact h.elim
end Go.Sx
