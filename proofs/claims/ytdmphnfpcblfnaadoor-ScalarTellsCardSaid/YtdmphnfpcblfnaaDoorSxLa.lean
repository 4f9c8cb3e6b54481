import Derived.Test.YtdmphnfpcblfnaaDoorSxCl
import Derived.Test.YtdmphnfpcblfnaaDoorSxGm
/- The symbolic layer: what the listed variables give. -/
namespace Go.Sx

theorem mapM_get {α β : Type} {f : α → Option β} : ∀ {l : List α} {xs : List β}, l.mapM f = some xs → xs.length = l.length ∧ ∀ (i : Nat) (a : α), l[i]? = some a → ∃ b, xs[i]? = some b ∧ f a = some b
  | [], xs, h => by
    simp at h; subst h
    exact ⟨rfl, fun i a h => by simp at h⟩
  | a :: l, xs, h => by
    rw [List.mapM_cons] at h
    cases hf : f a with
    | none => simp [hf] at h
    | some b =>
      cases hm : l.mapM f with
      | none => simp [hf, hm] at h
      | some ys =>
        simp [hf, hm] at h
        subst h
        obtain ⟨h1, h2⟩ := mapM_get hm
        refine ⟨by simp [h1], fun i c hc => ?_⟩
        cases i with
        | zero => simp at hc; subst hc; exact ⟨b, rfl, hf⟩
        | succ i => exact h2 i c (by simpa using hc)

section
variable {H : Type} {enc : TypeId × Value → H} {P : Program} {w : World} {base : Nat} {sp : Nat → Bool} {held : Bool}

theorem trod_one_int {e : TypeId} {k : IntKind} {fuel : Nat} {c : Value} {x : Int} {ps : List MemPlace} (he : P.underlying e = some (.int k)) (h : DataW.trod enc P w base sp held fuel e [c] = some (.lit (.int k x), ps)) : c = .int k x := by
  cases fuel with
  | zero => simp [DataW.trod] at h
  | succ fuel =>
    unfold DataW.trod at h
    rw [he] at h
    cases c <;> simp at h
    obtain ⟨⟨rfl, -⟩, rfl, -⟩ := h
    rfl

/-- An array of numbers, read: its cells. -/
theorem trod_ints {t e : TypeId} {n : Nat} {k : IntKind} {fuel : Nat} {cs : List Value} {l : List Int} {ps : List MemPlace} (ht : P.underlying t = some (.array n e)) (he : P.underlying e = some (.int k)) (hc : P.cellsOf e = 1) (hn : P.cellsOf t = n)
    (h : DataW.trod enc P w base sp held fuel t cs = some (.agg (l.map fun x => .lit (.int k x)), ps)) : cs = l.map (Value.int k) := by
  cases fuel with
  | zero => simp [DataW.trod] at h
  | succ fuel =>
    unfold DataW.trod at h
    rw [ht] at h
    simp only at h
    split at h
    · rename_i hlen
      rw [hn] at hlen
      simp only [Option.map_eq_some_iff, Prod.mk.injEq, DataW.agg.injEq] at h
      obtain ⟨xs, hm, h1, -⟩ := h
      obtain ⟨h2, h3⟩ := mapM_get hm
      simp only [List.length_range] at h2
      have hll : l.length = n := by
        have := congrArg List.length h1
        simp at this; omega
      apply List.ext_getElem?
      intro i
      rcases Nat.lt_or_ge i n with hi | hi
      · obtain ⟨b, hb, hf⟩ := h3 i i (by simp [hi])
        have hcell : ((cs.drop (i * P.cellsOf e)).take (P.cellsOf e)) = [cs[i]'(by omega)] := by
          rw [hc, Nat.mul_one]
          have e : cs.drop i = cs[i]'(by omega) :: cs.drop (i + 1) := List.drop_eq_getElem_cons (by omega)
          rw [e]; rfl
        rw [hcell] at hf
        have hd : b.1 = .lit (.int k (l[i]'(by omega))) := by
          have := congrArg (fun z : List (DataW H) => z[i]?) h1
          simp only [List.getElem?_map, hb, Option.map_some] at this
          rw [List.getElem?_eq_getElem (by omega)] at this
          simpa using this
        obtain ⟨b1, b2⟩ := b
        simp only at hd; subst hd
        have := trod_one_int he hf
        rw [List.getElem?_eq_getElem (by omega), List.getElem?_map, List.getElem?_eq_getElem (by omega), this]
        rfl
      · rw [List.getElem?_eq_none (by omega), List.getElem?_eq_none (by simp; omega)]
    · cases h

theorem gInts_of {n : String} {g : Nat} {t e : TypeId} {m : Nat} {k : IntKind} {fuel : Nat} {cs : Array Value} {l : List Int} {ps : List MemPlace} (hg : P.globalNamed n = some g) (hv : w.var? P n = some cs)
    (ht : P.underlying t = some (.array m e)) (he : P.underlying e = some (.int k)) (hc : P.cellsOf e = 1) (hn : P.cellsOf t = m) (h : DataW.trod enc P w base sp held fuel t cs.toList = some (.agg (l.map fun x => .lit (.int k x)), ps)) : gInts w g k l := by
  have hcs := trod_ints ht he hc hn h
  have hlt : g < w.heap.size := by
    unfold World.var? at hv
    rw [hg] at hv
    simp only [Option.bind_some] at hv
    split at hv
    · rename_i hh; exact (Array.getElem?_eq_some_iff.1 hh).1
    · cases hv
  refine ⟨hlt, fun j x hx => ?_⟩
  rw [World.var?_cell hg hv j, ← Array.getElem?_toList, hcs, List.getElem?_map, hx]
  rfl
end
end Go.Sx
