import Derived.Test.YtdmphnfpcblfnaaDoorSxO
/- The symbolic layer: listed variables that are rows of numbers. -/
namespace Go.Sx
open Go.RowKit (Below)

/-- A variable's block holds these numbers. -/
def gInts (w : World) (g : Nat) (k : IntKind) (l : List Int) : Prop := g < w.heap.size ∧ ∀ j x, l[j]? = some x → w.cell? ⟨g, j, none⟩ = some (.int k x)

theorem gInts_keep {w w' : World} {g : Nat} {k : IntKind} {l : List Int} (hb : Below w.heap.size w w') (h : gInts w g k l) : gInts w' g k l :=
  ⟨Nat.lt_of_lt_of_le h.1 hb.size, fun j x hj => by rw [hb.cell (p := ⟨g, j, none⟩) h.1]; exact h.2 j x hj⟩

/-- Each of the listed variables holds what is told. -/
def GOf : List (Nat × IntKind × List Int) → World → Prop
  | [], _ => True
  | (g, k, l) :: r, w => gInts w g k l ∧ GOf r w

def gmOf : List (Nat × IntKind × List Int) → Mem
  | [] => []
  | (g, k, l) :: r => (1000000 + g, .st false [.ints k l.length l]) :: gmOf r

theorem GOf_keep : ∀ (r : List (Nat × IntKind × List Int)) (w w' : World), Below w.heap.size w w' → GOf r w → GOf r w'
  | [], _, _, _, _ => trivial
  | (_, _, _) :: r, w, w', hb, h => ⟨gInts_keep hb h.1, GOf_keep r w w' hb h.2⟩

theorem gmOf_look : ∀ (r : List (Nat × IntKind × List Int)) {i : Nat} {b : Blk}, look (gmOf r) i = some b → ∃ g k l, i = 1000000 + g ∧ b = .st false [.ints k l.length l] ∧ ∀ w, GOf r w → gInts w g k l
  | [], _, _, h => by cases h
  | (g, k, l) :: r, i, b, h => by
    simp only [gmOf, look] at h
    split at h
    · rename_i hi
      have := Nat.eq_of_beq_eq_true hi
      cases h
      exact ⟨g, k, l, this.symm, rfl, fun w hw => hw.1⟩
    · obtain ⟨g', k', l', h1, h2, h3⟩ := gmOf_look r h
      exact ⟨g', k', l', h1, h2, fun w hw => h3 w hw.2⟩

theorem gmOf_is (r : List (Nat × IntKind × List Int)) : GlobIs (GOf r) (gmOf r) := by
  refine ⟨fun i b h => ?_, fun w hw i b h => ?_⟩
  · obtain ⟨g, k, l, rfl, rfl, -⟩ := gmOf_look r h
    exact ⟨fun p hp => by simp at hp; subst hp; simp [isAtom], rfl, fun p => by simp [Blk.ids, idsL, SV.ids], by omega⟩
  · obtain ⟨g, k, l, rfl, rfl, hg⟩ := gmOf_look r h
    have := hg w hw
    refine ⟨by rw [Nat.add_sub_cancel_left]; exact this.1, fun ρ j v hj => ?_⟩
    rw [Nat.add_sub_cancel_left]
    simp only [Blk.cells, cellsL, SV.den, Value.cells, List.append_nil, List.getElem?_map, Option.map_eq_some_iff] at hj
    obtain ⟨x, hx, rfl⟩ := hj
    exact this.2 j x hx
end Go.Sx
