import Derived.Test.YtdlhklnpnpmibaaChecked
import Derived.Test.YtdlhklnpnpmibaaMc
import Derived.KernelRfl
import Derived.Test.YtdlhklnpnpmibaaMb
import Derived.Test.YtdlhklnpnpmibaaRows
import Derived.ProofKit
/- What the symbolic layer is told of the types of this translation: made by program. -/
namespace Go.Proofs.Ytdlhklnpnpmibaa
open Go.Sx
set_option maxRecDepth 100000
noncomputable def ty2 : TyI := ⟨(.int .i64), 1, 8, (.lit .i64 0), false⟩
noncomputable def ty3 : TyI := ⟨(.int .i64), 1, 8, (.lit .i64 0), false⟩
noncomputable def ty4 : TyI := ⟨.bool, 1, 1, .ff, false⟩
noncomputable def ty5 : TyI := ⟨(.int .u8), 1, 1, (.lit .u8 0), false⟩
noncomputable def ty9 : TyI := ⟨.string, 1, 16, (.raw (.string ByteArray.empty)), false⟩
noncomputable def ty12 : TyI := ⟨(.int .u64), 1, 8, (.lit .u64 0), false⟩
noncomputable def ty13 : TyI := ⟨(undD Try.prog 13), 2, 24, (.agg [.raw (.string ByteArray.empty), .ints .u64 1 [0]]), false⟩
noncomputable def ty21 : TyI := ⟨(.int .i32), 1, 4, (.lit .i32 0), false⟩
noncomputable def ty22 : TyI := ⟨(.slice 27), 1, 24, (.raw (.slice none 0 0)), false⟩
noncomputable def ty23 : TyI := ⟨(undD Try.prog 23), 2, 32, (.agg [.raw (.slice none 0 0), .ints .i64 1 [0]]), false⟩
noncomputable def ty24 : TyI := ⟨(undD Try.prog 24), 2, 32, (.agg [.raw (.slice none 0 0), .ints .i64 1 [0]]), false⟩
noncomputable def ty25 : TyI := ⟨(.slice 3), 1, 24, (.raw (.slice none 0 0)), false⟩
noncomputable def ty27 : TyI := ⟨(.array 32 5), 32, 32, (.ints .u8 32 [0, 0, 0, 0, 0, 0, 0, 0, 0, 0, 0, 0, 0, 0, 0, 0, 0, 0, 0, 0, 0, 0, 0, 0, 0, 0, 0, 0, 0, 0, 0, 0]), true⟩
noncomputable def ty28 : TyI := ⟨(.int .i64), 1, 8, (.lit .i64 0), false⟩
noncomputable def ty47 : TyI := ⟨(.map 27 3), 1, 8, (.raw (.map none)), false⟩
noncomputable def ty49 : TyI := ⟨(.map 3 3), 1, 8, (.raw (.map none)), false⟩
noncomputable def ty57 : TyI := ⟨(.int .u32), 1, 4, (.lit .u32 0), false⟩
noncomputable def ty61 : TyI := ⟨(.pointer 5), 1, 8, (.raw (.pointer none)), false⟩
noncomputable def tabL : List (Nat × TyI) := [(2, ty2), (3, ty3), (4, ty4), (5, ty5), (9, ty9), (12, ty12), (13, ty13), (21, ty21), (22, ty22), (23, ty23), (24, ty24), (25, ty25), (27, ty27), (28, ty28), (47, ty47), (49, ty49), (57, ty57), (61, ty61)]
theorem ty2_ok : TyOk Try.prog 2 ty2 := tyOk_of (by kernel_rfl) (by kernel_rfl) (fun ρ => by kernel_rfl) (by simp [ty2, wf]) (fun p => by simp [ty2, SV.ids]) (fun h => by cases h)
theorem ty3_ok : TyOk Try.prog 3 ty3 := tyOk_of (by kernel_rfl) (by kernel_rfl) (fun ρ => by kernel_rfl) (by simp [ty3, wf]) (fun p => by simp [ty3, SV.ids]) (fun h => by cases h)
theorem ty4_ok : TyOk Try.prog 4 ty4 := tyOk_of (by kernel_rfl) (by kernel_rfl) (fun ρ => by kernel_rfl) (by simp [ty4, wf]) (fun p => by simp [ty4, SV.ids]) (fun h => by cases h)
theorem ty5_ok : TyOk Try.prog 5 ty5 := tyOk_of (by kernel_rfl) (by kernel_rfl) (fun ρ => by kernel_rfl) (by simp [ty5, wf]) (fun p => by simp [ty5, SV.ids]) (fun h => by cases h)
theorem ty9_ok : TyOk Try.prog 9 ty9 := tyOk_of (by kernel_rfl) (by kernel_rfl) (fun ρ => by kernel_rfl) (by simp [ty9, wf]) (fun p => by simp [ty9, SV.ids]) (fun h => by cases h)
theorem ty12_ok : TyOk Try.prog 12 ty12 := tyOk_of (by kernel_rfl) (by kernel_rfl) (fun ρ => by kernel_rfl) (by simp [ty12, wf]) (fun p => by simp [ty12, SV.ids]) (fun h => by cases h)
theorem ty13_ok : TyOk Try.prog 13 ty13 := tyOk_of (by kernel_rfl) (by kernel_rfl) (fun ρ => by kernel_rfl) (by simp [ty13, wf, isAtom, atomsL, one]) (fun p => by simp [ty13, SV.ids, idsL]) (fun h => by cases h)
theorem ty21_ok : TyOk Try.prog 21 ty21 := tyOk_of (by kernel_rfl) (by kernel_rfl) (fun ρ => by kernel_rfl) (by simp [ty21, wf]) (fun p => by simp [ty21, SV.ids]) (fun h => by cases h)
theorem ty22_ok : TyOk Try.prog 22 ty22 := tyOk_of (by kernel_rfl) (by kernel_rfl) (fun ρ => by kernel_rfl) (by simp [ty22, wf]) (fun p => by simp [ty22, SV.ids]) (fun h => by cases h)
theorem ty23_ok : TyOk Try.prog 23 ty23 := tyOk_of (by kernel_rfl) (by kernel_rfl) (fun ρ => by kernel_rfl) (by simp [ty23, wf, isAtom, atomsL, one]) (fun p => by simp [ty23, SV.ids, idsL]) (fun h => by cases h)
theorem ty24_ok : TyOk Try.prog 24 ty24 := tyOk_of (by kernel_rfl) (by kernel_rfl) (fun ρ => by kernel_rfl) (by simp [ty24, wf, isAtom, atomsL, one]) (fun p => by simp [ty24, SV.ids, idsL]) (fun h => by cases h)
theorem ty25_ok : TyOk Try.prog 25 ty25 := tyOk_of (by kernel_rfl) (by kernel_rfl) (fun ρ => by kernel_rfl) (by simp [ty25, wf]) (fun p => by simp [ty25, SV.ids]) (fun h => by cases h)
theorem ty27_ok : TyOk Try.prog 27 ty27 := tyOk_of (by kernel_rfl) (by kernel_rfl) (fun ρ => by kernel_rfl) (by simp [ty27, wf]) (fun p => by simp [ty27, SV.ids]) (fun _ => ⟨by kernel_rfl, by kernel_rfl, fun fs h => by cases h⟩)
theorem ty28_ok : TyOk Try.prog 28 ty28 := tyOk_of (by kernel_rfl) (by kernel_rfl) (fun ρ => by kernel_rfl) (by simp [ty28, wf]) (fun p => by simp [ty28, SV.ids]) (fun h => by cases h)
theorem ty47_ok : TyOk Try.prog 47 ty47 := tyOk_of (by kernel_rfl) (by kernel_rfl) (fun ρ => by kernel_rfl) (by simp [ty47, wf]) (fun p => by simp [ty47, SV.ids]) (fun h => by cases h)
theorem ty49_ok : TyOk Try.prog 49 ty49 := tyOk_of (by kernel_rfl) (by kernel_rfl) (fun ρ => by kernel_rfl) (by simp [ty49, wf]) (fun p => by simp [ty49, SV.ids]) (fun h => by cases h)
theorem ty57_ok : TyOk Try.prog 57 ty57 := tyOk_of (by kernel_rfl) (by kernel_rfl) (fun ρ => by kernel_rfl) (by simp [ty57, wf]) (fun p => by simp [ty57, SV.ids]) (fun h => by cases h)
theorem ty61_ok : TyOk Try.prog 61 ty61 := tyOk_of (by kernel_rfl) (by kernel_rfl) (fun ρ => by kernel_rfl) (by simp [ty61, wf]) (fun p => by simp [ty61, SV.ids]) (fun h => by cases h)
theorem tab_ok : TabOk Try.prog (tabOf tabL) := tabOk_of (by
  intro x hx
  simp only [tabL, List.mem_cons, List.mem_nil_iff, or_false] at hx
  rcases hx with rfl | rfl | rfl | rfl | rfl | rfl | rfl | rfl | rfl | rfl | rfl | rfl | rfl | rfl | rfl | rfl | rfl | rfl
  · exact ty2_ok
  · exact ty3_ok
  · exact ty4_ok
  · exact ty5_ok
  · exact ty9_ok
  · exact ty12_ok
  · exact ty13_ok
  · exact ty21_ok
  · exact ty22_ok
  · exact ty23_ok
  · exact ty24_ok
  · exact ty25_ok
  · exact ty27_ok
  · exact ty28_ok
  · exact ty47_ok
  · exact ty49_ok
  · exact ty57_ok
  · exact ty61_ok)
end Go.Proofs.Ytdlhklnpnpmibaa

/- Plain mathematics of orders: lists of numbers that are all from 0 on. No program in sight. -/
namespace Go.Tp
open Go.Sx

/-! ### Lists in which all below their length are -/
theorem pigeon : ∀ (n : Nat) (l : List Nat), (∀ i, i < n → i ∈ l) → l.length = n → l.Nodup ∧ ∀ x ∈ l, x < n
  | 0, l, _, hl => by
    have : l = [] := List.eq_nil_of_length_eq_zero hl
    subst this
    exact ⟨List.nodup_nil, fun x hx => by cases hx⟩
  | n + 1, l, h, hl => by
    have hn := h n (by omega)
    have hlen : (l.erase n).length = n := by rw [List.length_erase_of_mem hn, hl]; rfl
    obtain ⟨h1, h2⟩ := pigeon n (l.erase n) (fun i hi => (List.mem_erase_of_ne (by omega)).2 (h i (by omega))) hlen
    have hp := List.perm_cons_erase hn
    refine ⟨hp.nodup_iff.2 (List.nodup_cons.2 ⟨fun hm => by have := h2 n hm; omega, h1⟩), fun x hx => ?_⟩
    rcases List.mem_cons.1 (hp.mem_iff.1 hx) with rfl | hx
    · omega
    · have := h2 x hx; omega

/-- The place of a number; the list's length: it is nowhere. -/
def idx (v : Int) : List Int → Nat
  | [] => 0
  | x :: l => match x == v with
    | true => 0
    | false => idx v l + 1

theorem idx_le (v : Int) : ∀ l : List Int, idx v l ≤ l.length
  | [] => Nat.le_refl _
  | x :: l => by
    simp only [idx]
    split
    · simp
    · have := idx_le v l; simp; omega
theorem idx_lt {v : Int} : ∀ {l : List Int}, idx v l < l.length ↔ v ∈ l
  | [] => by simp [idx]
  | x :: l => by
    simp only [idx, List.length_cons, List.mem_cons]
    cases h : x == v with
    | true =>
      have : x = v := by simpa using h
      simp [this]
    | false =>
      have : ¬ x = v := by simpa using h
      have ih := idx_lt (v := v) (l := l)
      simp only [Nat.add_lt_add_iff_right, ih]
      exact ⟨.inr, fun h => h.resolve_left (fun e => this e.symm)⟩
theorem get_idx {v : Int} : ∀ {l : List Int}, v ∈ l → l.getD (idx v l) 0 = v
  | [], h => by cases h
  | x :: l, h => by
    simp only [idx]
    cases hx : x == v with
    | true => have : x = v := by simpa using hx
              simpa using this
    | false =>
      have : ¬ x = v := by simpa using hx
      rcases List.mem_cons.1 h with rfl | h
      · exact absurd rfl this
      · simpa using get_idx h

def isOrder (l : List Int) : Prop := ∀ i : Nat, i < l.length → (i : Int) ∈ l

theorem order_spec {l : List Int} (h : isOrder l) : l.Nodup ∧ ∀ x ∈ l, 0 ≤ x ∧ x < l.length := by
  have hz : ∀ x ∈ l, 0 ≤ x := by
    -- the numbers at or above 0 are already as many as there are places
    intro x hx
    apply Classical.byContradiction
    intro hneg
    have hm : ∀ i, i < l.length → i ∈ (l.erase x).map Int.toNat := fun i hi => by
      have h1 : (i : Int) ∈ l.erase x := (List.mem_erase_of_ne (by omega)).2 (h i hi)
      exact List.mem_map.2 ⟨(i : Int), h1, by simp⟩
    have hlen : ((l.erase x).map Int.toNat).length = l.length - 1 := by simp [List.length_erase_of_mem hx]
    have hpos : 0 < l.length := List.length_pos_of_mem hx
    obtain ⟨-, h2⟩ := pigeon (l.length - 1) ((l.erase x).map Int.toNat) (fun i hi => hm i (by omega)) hlen
    have := h2 (l.length - 1) (hm _ (by omega))
    omega
  have hm : ∀ i, i < l.length → i ∈ l.map Int.toNat := fun i hi => List.mem_map.2 ⟨(i : Int), h i hi, by simp⟩
  obtain ⟨h1, h2⟩ := pigeon l.length (l.map Int.toNat) hm (by simp)
  refine ⟨(List.pairwise_map.1 h1).imp fun hne he => hne (by rw [he]), fun x hx => ⟨hz x hx, ?_⟩⟩
  have := h2 x.toNat (List.mem_map.2 ⟨x, hx, rfl⟩)
  have := hz x hx
  omega

theorem getD_mem {l : List Int} {i : Nat} (h : i < l.length) : l.getD i 0 ∈ l := by
  simp only [List.getD, List.getElem?_eq_getElem h, Option.getD_some]
  exact List.getElem_mem h

theorem nodup_get {l : List Int} (hn : l.Nodup) {i j : Nat} (hi : i < l.length) (hj : j < l.length) (h : l.getD i 0 = l.getD j 0) : i = j := by
  simp only [List.getD, List.getElem?_eq_getElem hi, List.getElem?_eq_getElem hj, Option.getD_some] at h
  have hp := List.pairwise_iff_getElem.1 hn
  rcases Nat.lt_trichotomy i j with hij | hij | hij
  · exact absurd h (hp i j hi hj hij)
  · exact hij
  · exact absurd h.symm (hp j i hj hi hij)

theorem idx_get {l : List Int} (hn : l.Nodup) {i : Nat} (hi : i < l.length) : idx (l.getD i 0) l = i := by
  have hm := getD_mem hi
  exact nodup_get hn (idx_lt.2 hm) hi (get_idx hm)

theorem isOrder_of {l : List Int} (hn : l.Nodup) (hb : ∀ x ∈ l, 0 ≤ x ∧ x < l.length) : isOrder l := by
  -- as many unlike numbers as there are below the length are all of them
  have key : ∀ (n : Nat) (l : List Nat), l.Nodup → l.length = n → (∀ x ∈ l, x < n) → ∀ i, i < n → i ∈ l := by
    intro n
    induction n with
    | zero => intro l _ _ _ i hi; omega
    | succ n ih =>
      intro l hn hl hb i hi
      by_cases hm : n ∈ l
      · have hlen : (l.erase n).length = n := by rw [List.length_erase_of_mem hm, hl]; rfl
        have hb' : ∀ x ∈ l.erase n, x < n := fun x hx => by
          have h1 := hb x (List.mem_of_mem_erase hx)
          have h2 : x ≠ n := fun e => by
            rw [e] at hx
            exact (hn.mem_erase_iff.1 hx).1 rfl
          omega
        by_cases hin : i = n
        · rw [hin]; exact hm
        · exact List.mem_of_mem_erase (ih (l.erase n) (hn.erase n) hlen hb' i (by omega))
      · -- n + 1 unlike numbers below n: there are none
        exfalso
        have hb' : ∀ x ∈ l, x < n := fun x hx => by
          have := hb x hx
          have : x ≠ n := fun e => hm (e ▸ hx)
          omega
        cases l with
        | nil => simp at hl
        | cons a l =>
          have hl' : l.length = n := by simpa using hl
          have hall := ih l (List.nodup_cons.1 hn).2 hl' (fun x hx => hb' x (by simp [hx])) a (hb' a (by simp))
          exact (List.nodup_cons.1 hn).1 hall
  intro i hi
  have hnat : (l.map Int.toNat).Nodup := by
    rw [List.Nodup, List.pairwise_map]
    refine List.Pairwise.imp_of_mem ?_ hn
    intro a b ha hb' hne he
    have h1 := hb a ha
    have h2 := hb b hb'
    exact hne (by omega)
  have := key l.length (l.map Int.toNat) hnat (by simp) (fun x hx => by
    obtain ⟨y, hy, rfl⟩ := List.mem_map.1 hx
    have := hb y hy
    omega) i hi
  obtain ⟨y, hy, hyi⟩ := List.mem_map.1 this
  have h1 := hb y hy
  have : y = (i : Int) := by omega
  rw [← this]; exact hy

/-! ### Back, and then -/
def thenL (a b : List Int) : List Int := b.map fun x => a.getD x.toNat 0
def backL (l : List Int) : List Int := (List.range l.length).map fun (v : Nat) => ((idx (v : Int) l : Nat) : Int)

theorem thenL_length (a b : List Int) : (thenL a b).length = b.length := by simp [thenL]
theorem backL_length (l : List Int) : (backL l).length = l.length := by simp [backL]
theorem thenL_get {a b : List Int} {i : Nat} (hi : i < b.length) : (thenL a b).getD i 0 = a.getD (b.getD i 0).toNat 0 := by
  simp [thenL, List.getD, hi]
theorem backL_get {l : List Int} {i : Nat} (hi : i < l.length) : (backL l).getD i 0 = (idx (i : Int) l : Nat) := by
  simp [backL, List.getD, hi]

theorem eq_of_getD {a b : List Int} (hl : a.length = b.length) (h : ∀ i, i < a.length → a.getD i 0 = b.getD i 0) : a = b := by
  apply List.ext_getElem hl
  intro i h1 h2
  have := h i h1
  simpa [List.getD, h1, h2] using this

theorem thenL_order {a b : List Int} (ha : isOrder a) (hb : isOrder b) (hl : a.length = b.length) : isOrder (thenL a b) := by
  obtain ⟨na, ba⟩ := order_spec ha
  obtain ⟨nb, bb⟩ := order_spec hb
  intro i hi
  rw [thenL_length] at hi
  have h1 := idx_lt.2 (ha i (by omega))
  have h2 := hb (idx (i : Int) a) (by omega)
  have h3 := idx_lt.2 h2
  have h4 : (thenL a b).getD (idx ((idx (i : Int) a : Nat) : Int) b) 0 = i := by
    rw [thenL_get h3, get_idx h2]
    simp only [Int.toNat_natCast]
    exact get_idx (ha i (by omega))
  rw [← h4]
  exact getD_mem (by rw [thenL_length]; exact h3)

theorem backL_order {l : List Int} (h : isOrder l) : isOrder (backL l) := by
  obtain ⟨hn, hb⟩ := order_spec h
  intro i hi
  rw [backL_length] at hi
  have h1 := hb _ (getD_mem hi)
  have h2 : (backL l).getD (l.getD i 0).toNat 0 = i := by
    rw [backL_get (by omega)]
    have : (((l.getD i 0).toNat : Nat) : Int) = l.getD i 0 := by omega
    rw [this, idx_get hn hi]
  rw [← h2]
  exact getD_mem (by rw [backL_length]; omega)

theorem thenL_back {l : List Int} (h : isOrder l) : thenL l (backL l) = (List.range l.length).map fun (i : Nat) => (i : Int) := by
  refine eq_of_getD (by simp [thenL_length, backL_length]) fun i hi => ?_
  rw [thenL_length, backL_length] at hi
  rw [thenL_get (by rw [backL_length]; exact hi), backL_get hi]
  simp only [Int.toNat_natCast]
  rw [get_idx (h i hi)]
  simp [List.getD, hi]

theorem thenL_assoc {a b c : List Int} (hc : ∀ x ∈ c, 0 ≤ x ∧ x < b.length) : thenL (thenL a b) c = thenL a (thenL b c) := by
  refine eq_of_getD (by simp [thenL_length]) fun i hi => ?_
  rw [thenL_length] at hi
  have h1 := hc _ (getD_mem hi)
  rw [thenL_get hi, thenL_get (by omega), thenL_get (by rw [thenL_length]; exact hi), thenL_get hi]

/-! ### Draws -/
def chunk (l : List Int) (i : Nat) : List Int := sub l (i * 32) 32
def turnL (l o : List Int) : List Int := o.flatMap fun x => chunk l x.toNat

theorem chunk_length {l : List Int} {n i : Nat} (hl : l.length = n * 32) (hi : i < n) : (chunk l i).length = 32 := by
  simp only [chunk, sub, List.length_take, List.length_drop, hl]
  omega

theorem flat_chunk (f : Int → List Int) : ∀ (o : List Int), (∀ x ∈ o, (f x).length = 32) → (o.flatMap f).length = o.length * 32 ∧ ∀ i, i < o.length → chunk (o.flatMap f) i = f (o.getD i 0)
  | [], _ => ⟨rfl, fun i hi => by simp at hi⟩
  | x :: o, h => by
    obtain ⟨h1, h2⟩ := flat_chunk f o (fun y hy => h y (by simp [hy]))
    have hx := h x (by simp)
    refine ⟨by simp only [List.flatMap_cons, List.length_append, hx, h1, List.length_cons]; omega, fun i hi => ?_⟩
    cases i with
    | zero =>
      simp only [List.flatMap_cons, chunk, sub, Nat.zero_mul, List.drop_zero, List.getD_cons_zero]
      rw [List.take_append_of_le_length (by omega), List.take_of_length_le (by omega)]
    | succ i =>
      have := h2 i (by simpa using hi)
      simp only [List.flatMap_cons, chunk, sub, List.getD_cons_succ] at this ⊢
      rw [List.drop_append, List.drop_of_length_le (by omega), List.nil_append, hx, show (i + 1) * 32 - 32 = i * 32 from by omega]
      exact this

theorem turnL_spec {l o : List Int} {n : Nat} (hl : l.length = n * 32) (ho : ∀ x ∈ o, 0 ≤ x ∧ x < n) : (turnL l o).length = o.length * 32 ∧ ∀ i, i < o.length → chunk (turnL l o) i = chunk l (o.getD i 0).toNat :=
  flat_chunk _ o fun x hx => chunk_length hl (by have := ho x hx; omega)

theorem eq_of_chunks {a b : List Int} : ∀ {n : Nat}, a.length = n * 32 → b.length = n * 32 → (∀ i, i < n → chunk a i = chunk b i) → a = b := by
  intro n
  induction n generalizing a b with
  | zero =>
    intro ha hb _
    rw [List.eq_nil_of_length_eq_zero (by omega : a.length = 0), List.eq_nil_of_length_eq_zero (by omega : b.length = 0)]
  | succ n ih =>
    intro ha hb h
    have h0 := h 0 (by omega)
    simp only [chunk, sub, Nat.zero_mul, List.drop_zero] at h0
    have ht := ih (a := a.drop 32) (b := b.drop 32) (by simp; omega) (by simp; omega) (fun i hi => by
      have := h (i + 1) (by omega)
      simp only [chunk, sub, List.drop_drop] at this ⊢
      rw [show 32 + i * 32 = (i + 1) * 32 from by omega]; exact this)
    rw [← List.take_append_drop 32 a, ← List.take_append_drop 32 b, h0, ht]

theorem turn_then {l a b : List Int} {n : Nat} (hl : l.length = n * 32) (ha : isOrder a) (hb : isOrder b) (hna : a.length = n) (hnb : b.length = n) : turnL (turnL l a) b = turnL l (thenL a b) := by
  obtain ⟨-, ba⟩ := order_spec ha
  obtain ⟨-, bb⟩ := order_spec hb
  obtain ⟨-, bt⟩ := order_spec (thenL_order ha hb (by omega))
  rw [thenL_length] at bt
  obtain ⟨l1, c1⟩ := turnL_spec (o := a) hl (by rw [← hna]; exact ba)
  obtain ⟨l2, c2⟩ := turnL_spec (l := turnL l a) (o := b) (n := n) (by omega) (by rw [← hnb]; exact bb)
  obtain ⟨l3, c3⟩ := turnL_spec (l := l) (o := thenL a b) (n := n) hl (by rw [← hnb]; exact bt)
  rw [thenL_length] at l3 c3
  refine eq_of_chunks (n := n) (by omega) (by omega) fun i hi => ?_
  have h1 := bb _ (getD_mem (l := b) (i := i) (by omega))
  rw [c2 i (by omega), c1 _ (by omega), c3 i (by omega), thenL_get (by omega)]

theorem turn_range {l : List Int} {n : Nat} (hl : l.length = n * 32) : turnL l ((List.range n).map fun (i : Nat) => (i : Int)) = l := by
  obtain ⟨l1, c1⟩ := turnL_spec (l := l) (o := (List.range n).map fun (i : Nat) => (i : Int)) (n := n) hl (fun x hx => by
    simp at hx; obtain ⟨j, hj, rfl⟩ := hx; omega)
  refine eq_of_chunks (n := n) (by simpa using l1) hl fun i hi => ?_
  rw [c1 i (by simpa using hi)]
  simp [List.getD, hi]
end Go.Tp

/- The tape's functions, each by its run: copies, bounds. -/
namespace Go.Proofs.Ytdlhklnpnpmibaa
open Go Go.Sx
open Go.RowKit (Below)
set_option maxRecDepth 100000

noncomputable def body (f : Func) : Code := f.body.getD .skip
abbrev no : Blocks := fun _ => none
/-- Nothing is asked of the world. -/
abbrev GT : World → Prop := fun _ => True
noncomputable abbrev cxT (fms : List (Nat × MSpec)) : Cx := cxM (tabOf tabL) [] [] fms
theorem cxT_ok {fms : List (Nat × MSpec)} (h : FnmsOk Try.prog GT fms) : CxOk Try.prog GT (cxT fms) := cxM_ok tab_ok trivial trivial h (fun _ _ _ _ => trivial) (by kernel_rfl)
theorem gmT_is : GlobIs GT ([] : Mem) := ⟨fun i b hl => (by cases hl), fun w _ i b hl => (by cases hl)⟩
theorem noBl {c : Code} : ∀ Γ : Gam, Γ.G = GT → Γ.G Γ.w0 → GlobOk Γ → Γ.n0 = 0 → BlocksIn Try.prog Γ no c := fun _ _ _ _ _ => blocksIn_none c
/-- Draws, a tape, numbers. -/
abbrev dK : MK := .s 27 .u8 32
abbrev tK : MK := .x [.s 27 .u8 32, .i .i64 1]
abbrev nK : MK := .s 3 .i64 1
abbrev iK : MK := .p (.num .i64)
abbrev bK : MK := .p .bool

theorem run25 (n : Nat) (l : List Int) (zs : Nat → Bool) : runM (cxT []) no 100 Try.f25 (body Try.f25) [dK] [.s n l] zs [dK] [] =
    .ite (zs 0 == true) (.ret [.s 0 []]) (.need (n * 32 ≤ 140737488355328) (.ret [.s n l])) := by kernel_rfl

abbrev preD : List MV → Prop := fun | [.s n _] => n ≤ 1000 | _ => False
abbrev cloneC : MSpec := ctM [dK] preD [dK] (fun xs => xs)
theorem fit_s {e : TypeId} {k : IntKind} {st : Nat} {xs : List MV} (h : fitM [.s e k st] xs) : ∃ n l, xs = [.s n l] ∧ l.length = n * st := by
  match xs, h with
  | [x], h => cases x <;> first | exact ⟨_, _, rfl, h.1⟩ | exact h.elim
  | [], h => exact h.elim
  | a :: _ :: _, h => cases a <;> first | exact h.2.elim | exact h.elim

theorem fn25 : FnmS Try.prog GT 25 cloneC :=
  fnm_run (cxT_ok (fms := []) trivial) gmT_is Try.func25 rfl (enters_of Try.func25 (by kernel_rfl) (by kernel_rfl)) (fuel := 100) (by decide) fun xs zs hfit hp hz => by
    obtain ⟨n, l, rfl, hl⟩ := fit_s hfit
    have hp : n ≤ 1000 := hp
    refine ⟨no, noBl, Gd.of_eq (run25 n l zs) ⟨?_, ?_⟩⟩
    · intro hzz
      obtain ⟨h1, rfl⟩ := hz 0 27 .u8 32 n l rfl (by simpa using hzz)
      have : n = 0 := by omega
      subst this; rfl
    · intro _
      exact ⟨by omega, rfl⟩
end Go.Proofs.Ytdlhklnpnpmibaa

/- The tape's functions: bounds, draws that are left. -/
namespace Go.Proofs.Ytdlhklnpnpmibaa
open Go Go.Sx
set_option maxRecDepth 100000

theorem fit_x {xs : List MV} (h : fitM [tK] xs) : ∃ n l u, xs = [.x [.s n l, .l [u]]] ∧ l.length = n * 32 := by
  match xs, h with
  | [.x [.s n l, .l us]], h =>
    obtain ⟨h1, h2, -⟩ := h.1
    obtain ⟨u, rfl⟩ := len1 h2
    exact ⟨n, l, u, rfl, h1⟩
  | [.x [.s _ _, .s _ _]], h => exact h.1.2.elim
  | [.x [.s _ _]], h => exact h.1.2.elim
  | [.x (.s _ _ :: .l _ :: _ :: _)], h => exact h.1.2.2.elim
  | [.x []], h => exact h.1.elim
  | [.x (.l _ :: _)], h => exact h.1.elim
  | [.x (.s _ _ :: .s _ _ :: _)], h => exact h.1.2.elim
  | [.p _], h => exact h.elim
  | [.s _ _], h => exact h.elim
  | [], h => exact h.elim
  | .x _ :: _ :: _, h => exact h.2.elim
  | .p _ :: _ :: _, h => exact h.elim
  | .s _ _ :: _ :: _, h => exact h.elim

abbrev preT : List MV → Prop := fun _ => True
def rightV (n : Nat) (u : Int) : Bool := decide (u ≥ 0) && decide (u ≤ (n : Int))
abbrev rightC : MSpec := ctM [tK] preT [bK] (fun | [.x [.s n _, .l [u]]] => [.p (.b (rightV n u))] | _ => [])
theorem run26 (n : Nat) (l : List Int) (u : Int) (zs : Nat → Bool) : runM (cxT []) no 100 Try.f26 (body Try.f26) [tK] [.x [.s n l, .l [u]]] zs [bK] [] =
    .ite (decide (u ≥ 0)) (.ret [.p (.b (decide (u ≤ (n : Int))))]) (.ret [.p (.b false)]) := by kernel_rfl
theorem fn26 : FnmS Try.prog GT 26 rightC :=
  fnm_run (cxT_ok (fms := []) trivial) gmT_is Try.func26 rfl (enters_of Try.func26 (by kernel_rfl) (by kernel_rfl)) (fuel := 100) (by decide) fun xs zs hfit _ hz => by
    obtain ⟨n, l, u, rfl, hl⟩ := fit_x hfit
    refine ⟨no, noBl, Gd.of_eq (run26 n l u zs) ⟨fun h => ?_, fun h => ?_⟩⟩
    · simp [T.good, rightV, h]
    · simp [T.good, rightV, h]

def leftV (n : Nat) (u : Int) : Int := if rightV n u then n - u else 0
abbrev leftC : MSpec := ctM [tK] (fun | [.x [.s n _, .l [_]]] => n ≤ 1000 | _ => False) [iK] (fun | [.x [.s n _, .l [u]]] => [.p (.n (leftV n u))] | _ => [])
noncomputable abbrev fA : List (Nat × MSpec) := [(25, cloneC), (26, rightC)]
theorem fA_ok : FnmsOk Try.prog GT fA := ⟨fn25, fn26, trivial⟩
theorem run14 (n : Nat) (l : List Int) (u : Int) (zs : Nat → Bool) : runM (cxT fA) no 100 Try.f14 (body Try.f14) [tK] [.x [.s n l, .l [u]]] zs [iK] [] =
    .need True (.ite (!(rightV n u)) (.ret [.p (.n 0)]) (.ret [.p (.n (IntKind.i64.wrap ((n : Int) - u)))])) := by kernel_rfl
theorem run15 (n : Nat) (l : List Int) (u : Int) (zs : Nat → Bool) : runM (cxT []) no 100 Try.f15 (body Try.f15) [tK] [.x [.s n l, .l [u]]] zs [iK] [] =
    .ite (decide (u < 0)) (.ret [.p (.n 0)]) (.ite (decide (u > (n : Int))) (.ret [.p (.n 0)]) (.ret [.p (.n (IntKind.i64.wrap ((n : Int) - u)))])) := by kernel_rfl
theorem rightV_iff {n : Nat} {u : Int} : rightV n u = true ↔ 0 ≤ u ∧ u ≤ n := by simp [rightV]
theorem wrap_i64 {x : Int} (h0 : -9223372036854775808 ≤ x) (h1 : x < 9223372036854775808) : IntKind.i64.wrap x = x := by rw [IntKind.wrap_i64]; omega

theorem fn14 : FnmS Try.prog GT 14 leftC :=
  fnm_run (cxT_ok fA_ok) gmT_is Try.func14 rfl (enters_of Try.func14 (by kernel_rfl) (by kernel_rfl)) (fuel := 100) (by decide) fun xs zs hfit hp hz => by
    obtain ⟨n, l, u, rfl, hl⟩ := fit_x hfit
    have hp : n ≤ 1000 := hp
    refine ⟨no, noBl, Gd.of_eq (run14 n l u zs) ⟨trivial, fun h => ?_, fun h => ?_⟩⟩
    · have : rightV n u = false := by simpa using h
      simp [T.good, leftV, this]
    · have : rightV n u = true := by simpa using h
      have hb := rightV_iff.1 this
      simp only [T.good, leftV, this, if_true]
      rw [wrap_i64 (by omega) (by omega)]
theorem fn15 : FnmS Try.prog GT 15 leftC :=
  fnm_run (cxT_ok (fms := []) trivial) gmT_is Try.func15 rfl (enters_of Try.func15 (by kernel_rfl) (by kernel_rfl)) (fuel := 100) (by decide) fun xs zs hfit hp hz => by
    obtain ⟨n, l, u, rfl, hl⟩ := fit_x hfit
    have hp : n ≤ 1000 := hp
    refine ⟨no, noBl, Gd.of_eq (run15 n l u zs) ⟨fun h => ?_, fun h => ⟨fun h2 => ?_, fun h2 => ?_⟩⟩⟩
    · have h := of_decide_eq_true h
      have : rightV n u = false := by rw [Bool.eq_false_iff]; intro hc; have := rightV_iff.1 hc; omega
      simp [T.good, leftV, this]
    · have h2 := of_decide_eq_true h2
      have : rightV n u = false := by rw [Bool.eq_false_iff]; intro hc; have := rightV_iff.1 hc; omega
      simp [T.good, leftV, this]
    · have h := of_decide_eq_false h
      have h2 := of_decide_eq_false h2
      have : rightV n u = true := rightV_iff.2 (by omega)
      simp only [T.good, leftV, this, if_true]
      rw [wrap_i64 (by omega) (by omega)]
end Go.Proofs.Ytdlhklnpnpmibaa

/- The tape's functions: the next draw; copies; whether two tapes, or two lists, are alike. -/
namespace Go.Proofs.Ytdlhklnpnpmibaa
open Go Go.Sx
set_option maxRecDepth 100000

abbrev zz : List Int := [0, 0, 0, 0, 0, 0, 0, 0, 0, 0, 0, 0, 0, 0, 0, 0, 0, 0, 0, 0, 0, 0, 0, 0, 0, 0, 0, 0, 0, 0, 0, 0]
abbrev preX : List MV → Prop := fun | [.x [.s n _, .l [_]]] => n ≤ 1000 | _ => False
abbrev copyC : MSpec := ctM [tK] preX [tK] (fun xs => xs)
theorem run27 (n : Nat) (l : List Int) (u : Int) (zs : Nat → Bool) : runM (cxT []) no 100 Try.f27 (body Try.f27) [tK] [.x [.s n l, .l [u]]] zs [tK] [] =
    .need (n * 32 ≤ 140737488355328) (.ret [.x [.s n l, .l [u]]]) := by kernel_rfl
theorem fn27 : FnmS Try.prog GT 27 copyC :=
  fnm_run (cxT_ok (fms := []) trivial) gmT_is Try.func27 rfl (enters_of Try.func27 (by kernel_rfl) (by kernel_rfl)) (fuel := 100) (by decide) fun xs zs hfit hp hz => by
    obtain ⟨n, l, u, rfl, hl⟩ := fit_x hfit
    have hp : n ≤ 1000 := hp
    exact ⟨no, noBl, Gd.of_eq (run27 n l u zs) ⟨by omega, rfl⟩⟩

/-- The next draw, the tape behind it, the error. -/
def nextV (n : Nat) (l : List Int) (u : Int) : List MV := cond (rightV n u) (cond (u == (n : Int)) [.p (.l zz), .x [.s n l, .l [u]], .p (.n 110)] [.p (.l (sub l (u.toNat * 32) 32)), .x [.s n l, .l [u + 1]], .p (.n 0)]) [.p (.l zz), .x [.s n l, .l [u]], .p (.n 1)]
abbrev nextK : List MK := [.p (.ints .u8 32), tK, iK]
abbrev nextC : MSpec := ctM [tK] preX nextK (fun | [.x [.s n l, .l [u]]] => nextV n l u | _ => [])
theorem run9 (n : Nat) (l : List Int) (u : Int) (zs : Nat → Bool) : runM (cxT fA) no 100 Try.f9 (body Try.f9) [tK] [.x [.s n l, .l [u]]] zs nextK [] =
    .need (n ≤ 1000) (.need True (.ite (!(rightV n u)) (.ret [.p (.l zz), .x [.s n l, .l [u]], .p (.n 1)]) (.ite (u == (n : Int)) (.ret [.p (.l zz), .x [.s n l, .l [u]], .p (.n 110)])
      (.need (0 ≤ u ∧ u < n) (.need (u.toNat * 32 + 32 ≤ n * 32) (.ret [.p (.l (sub l (u.toNat * 32) 32)), .x [.s n l, .l [IntKind.i64.wrap (u + 1)]], .p (.n 0)])))))) := by kernel_rfl
theorem fn9 : FnmS Try.prog GT 9 nextC :=
  fnm_run (cxT_ok fA_ok) gmT_is Try.func9 rfl (enters_of Try.func9 (by kernel_rfl) (by kernel_rfl)) (fuel := 100) (by decide) fun xs zs hfit hp hz => by
    obtain ⟨n, l, u, rfl, hl⟩ := fit_x hfit
    have hp : n ≤ 1000 := hp
    refine ⟨no, noBl, Gd.of_eq (run9 n l u zs) ⟨hp, trivial, fun h => ?_, fun h => ⟨fun h2 => ?_, fun h2 => ?_⟩⟩⟩
    · have : rightV n u = false := by simpa using h
      simp [T.good, nextV, this]
    · have : rightV n u = true := by simpa using h
      simp [T.good, nextV, this, h2]
    · have hr : rightV n u = true := by simpa using h
      have hb := rightV_iff.1 hr
      have hne : u ≠ n := by simpa using h2
      refine ⟨by omega, by omega, ?_⟩
      simp only [T.good, nextV, hr, h2, cond]
      rw [wrap_i64 (by omega) (by omega)]

theorem run10 (n : Nat) (l : List Int) (u : Int) (zs : Nat → Bool) : runM (cxT [(27, copyC)]) no 100 Try.f10 (body Try.f10) [tK] [.x [.s n l, .l [u]]] zs nextK [] =
    .need (n ≤ 1000) (.ite (decide (u < 0)) (.ret [.p (.l zz), .x [.s n l, .l [u]], .p (.n 1)]) (.ite (decide (u > (n : Int))) (.ret [.p (.l zz), .x [.s n l, .l [u]], .p (.n 1)]) (.ite (u == (n : Int)) (.ret [.p (.l zz), .x [.s n l, .l [u]], .p (.n 110)])
      (.need (0 ≤ u ∧ u < n) (.need (u.toNat * 32 + 32 ≤ n * 32) (.ret [.p (.l (sub l (u.toNat * 32) 32)), .x [.s n l, .l [IntKind.i64.wrap (u + 1)]], .p (.n 0)])))))) := by kernel_rfl
theorem fn10 : FnmS Try.prog GT 10 nextC :=
  fnm_run (cxT_ok (fms := [(27, copyC)]) ⟨fn27, trivial⟩) gmT_is Try.func10 rfl (enters_of Try.func10 (by kernel_rfl) (by kernel_rfl)) (fuel := 100) (by decide) fun xs zs hfit hp hz => by
    obtain ⟨n, l, u, rfl, hl⟩ := fit_x hfit
    have hp : n ≤ 1000 := hp
    refine ⟨no, noBl, Gd.of_eq (run10 n l u zs) ⟨hp, fun h => ?_, fun h => ⟨fun h2 => ?_, fun h2 => ⟨fun h3 => ?_, fun h3 => ?_⟩⟩⟩⟩
    · have h := of_decide_eq_true h
      have : rightV n u = false := by rw [Bool.eq_false_iff]; intro hc; have := rightV_iff.1 hc; omega
      simp [T.good, nextV, this]
    · have h2 := of_decide_eq_true h2
      have : rightV n u = false := by rw [Bool.eq_false_iff]; intro hc; have := rightV_iff.1 hc; omega
      simp [T.good, nextV, this]
    · have h := of_decide_eq_false h
      have h2 := of_decide_eq_false h2
      have : rightV n u = true := rightV_iff.2 (by omega)
      simp [T.good, nextV, this, h3]
    · have h := of_decide_eq_false h
      have h2 := of_decide_eq_false h2
      have hr : rightV n u = true := rightV_iff.2 (by omega)
      have hne : u ≠ n := by simpa using h3
      refine ⟨by omega, by omega, ?_⟩
      simp only [T.good, nextV, hr, h3, cond]
      rw [wrap_i64 (by omega) (by omega)]
end Go.Proofs.Ytdlhklnpnpmibaa

/- Loops of the tape's functions: how they are told; whether two lists are alike. -/
namespace Go.Proofs.Ytdlhklnpnpmibaa
open Go Go.Sx
set_option maxRecDepth 100000

def Code.blk : Code → Nat → Option Code
  | .seq a b, i => match Code.blk a i with
    | some c => some c
    | none => Code.blk b i
  | .cond _ a b, i => match Code.blk a i with
    | some c => some c
    | none => Code.blk b i
  | .block j b, i => match Nat.beq j i with
    | true => some b
    | false => Code.blk b i
  | .loop b, i => Code.blk b i
  | .scope b, i => Code.blk b i
  | _, _ => none
def unloop : Option Code → Code
  | some (.loop b) => b
  | _ => .skip
def junks : Nat → Nat → List SV
  | _, 0 => []
  | i, n + 1 => .junk i :: junks (i + 1) n
/-- A rule for one block. -/
def blOne (i : Nat) (f : St → T (Ex × St)) : Blocks := fun j => match Nat.beq j i with
  | true => some f
  | false => none

theorem blOne_in {P : Program} {Γ : Gam} {c lp : Code} {i : Nat} {f : St → T (Ex × St)} (hc : blksL c i = [.loop lp]) (h : ∀ S e S', T.Reach (f S) (e, S') → Go.Sx.Comes P Γ (.block i (.loop lp)) S e S') : BlocksIn P Γ (blOne i f) c := by
  refine blocksIn_of c fun id g hg b hb S e S' hr => ?_
  unfold blOne at hg
  split at hg
  · rename_i hid
    have hid := Nat.eq_of_beq_eq_true hid
    subst hid
    cases hg
    rw [hc] at hb
    simp at hb
    subst hb
    exact h S e S' hr
  · cases hg
/-- A block that is not reached. -/
def blNone (i : Nat) : Blocks := blOne i fun _ => .fail "not reached"
theorem blNone_in {P : Program} {Γ : Gam} {c lp : Code} {i : Nat} (hc : blksL c i = [.loop lp]) : BlocksIn P Γ (blNone i) c := blOne_in hc fun _ _ _ h => (T.reach_fail h).elim
/-- Rules for two blocks. -/
def blTwo (i : Nat) (f : St → T (Ex × St)) (i' : Nat) (f' : St → T (Ex × St)) : Blocks := fun j => match Nat.beq j i with
  | true => some f
  | false => match Nat.beq j i' with
    | true => some f'
    | false => none
theorem blTwo_in {P : Program} {Γ : Gam} {c lp lp' : Code} {i i' : Nat} {f f' : St → T (Ex × St)} (hc : blksL c i = [.loop lp]) (hc' : blksL c i' = [.loop lp']) (h : ∀ S e S', T.Reach (f S) (e, S') → Go.Sx.Comes P Γ (.block i (.loop lp)) S e S')
    (h' : ∀ S e S', T.Reach (f' S) (e, S') → Go.Sx.Comes P Γ (.block i' (.loop lp')) S e S') : BlocksIn P Γ (blTwo i f i' f') c := by
  refine blocksIn_of c fun id g hg b hb S e S' hr => ?_
  unfold blTwo at hg
  split at hg
  · rename_i hid
    have hid := Nat.eq_of_beq_eq_true hid
    subst hid
    cases hg
    rw [hc] at hb
    simp at hb
    subst hb
    exact h S e S' hr
  · split at hg
    · rename_i hid
      have hid := Nat.eq_of_beq_eq_true hid
      subst hid
      cases hg
      rw [hc'] at hb
      simp at hb
      subst hb
      exact h' S e S' hr
    · cases hg
end Go.Proofs.Ytdlhklnpnpmibaa

/- Whether two lists of numbers are alike. -/
namespace Go.Proofs.Ytdlhklnpnpmibaa
open Go Go.Sx
set_option maxRecDepth 100000

theorem fit_ss {e e' : TypeId} {k k' : IntKind} {st st' : Nat} {xs : List MV} (h : fitM [.s e k st, .s e' k' st'] xs) : ∃ n a m b, xs = [.s n a, .s m b] ∧ a.length = n * st ∧ b.length = m * st' := by
  match xs, h with
  | x :: ys, h =>
    cases x <;> first | exact h.elim | skip
    rename_i n a
    obtain ⟨m, b, rfl, h2⟩ := fit_s h.2
    exact ⟨n, a, m, b, rfl, h.1, h2⟩
  | [], h => exact h.elim

noncomputable def lp22 : Code := unloop (Code.blk (body Try.f22) 0)
def ks22 : Fh := ⟨[], [.keep, .keep, .junk, .junk, .keep, .soft] ++ List.replicate 20 .junk, [0, 1], 9⟩
def js22 : Fh := ⟨[], List.replicate 26 .junk, [], 9⟩
def rs22 : Fh := ⟨[], List.replicate 4 .junk ++ [.keep] ++ List.replicate 21 .junk, [], 9⟩
def inv22 (n : Nat) (a : List Int) (m : Nat) (b : List Int) (i : Int) : St :=
  ⟨[.sl 0, .sl 1, .junk 2, .junk 3, .ff, .int .i64 i] ++ junks 6 20, [(0, .vec false 3 .i64 1 n a), (1, .vec false 3 .i64 1 m b)], 9⟩
def out22 : St := ⟨junks 0 26, [], 9⟩
def ret22 : St := ⟨junks 0 4 ++ [.ff] ++ junks 5 21, [], 9⟩

theorem round22 (n m : Nat) (a b : List Int) (i : Int) : endV ks22 js22 rs22 (exec (cxT []) (drawS (cxT [])) no 100 lp22 (inv22 n a m b i)) =
    .ite (decide (i < (n : Int))) (.need (0 ≤ i ∧ i < (n : Int)) (.need (i.toNat + 1 ≤ n) (.need (0 ≤ i ∧ i < (m : Int)) (.need (i.toNat + 1 ≤ m)
      (.ite (a.getD i.toNat 0 != b.getD i.toNat 0) (.ret (.ret, ret22)) (.ret (.normal, inv22 n a m b (IntKind.i64.wrap (i + 1)))))))))
    (.ret (.exit 0, out22)) := by kernel_rfl

noncomputable def bl22 (n m : Nat) (a b : List Int) (q : Bool) : Blocks := blOne 0 (loopV ks22 (inv22 n a m b 0) q (.normal, out22) (.ret, ret22))
theorem run22 (n m : Nat) (a b : List Int) (q : Bool) (zs : Nat → Bool) : runM (cxT []) (bl22 n m a b q) 100 Try.f22 (body Try.f22) [nK, nK] [.s n a, .s m b] zs [bK] [] =
    .ite ((n : Int) != (m : Int)) (.ret [.p (.b false)]) (.need (inv22 n a m b 0 = inv22 n a m b 0) (.ite q (.ret [.p (.b true)]) (.ret [.p (.b false)]))) := by kernel_rfl

theorem run22' (n m : Nat) (a b : List Int) (zs : Nat → Bool) : runM (cxT []) (blNone 0) 100 Try.f22 (body Try.f22) [nK, nK] [.s n a, .s m b] zs [bK] [] =
    .ite ((n : Int) != (m : Int)) (.ret [.p (.b false)]) (.fail "not reached") := by kernel_rfl
theorem blks22 : blksL (body Try.f22) 0 = [.loop lp22] := by kernel_rfl

def alikeV (n : Nat) (a : List Int) (m : Nat) (b : List Int) : Bool := (n == m) && (a == b)
abbrev preN : List MV → Prop := fun | [.s n _, .s m _] => n ≤ 1000 ∧ m ≤ 1000 | _ => False
abbrev numbersC : MSpec := ctM [nK, nK] preN [bK] (fun | [.s n a, .s m b] => [.p (.b (alikeV n a m b))] | _ => [])

theorem fn22 : FnmS Try.prog GT 22 numbersC :=
  fnm_run (cxT_ok (fms := []) trivial) gmT_is Try.func22 (c := body Try.f22) rfl (enters_of Try.func22 (by kernel_rfl) (by kernel_rfl)) (fuel := 100) (by decide) fun xs zs hfit hp hz => by
    obtain ⟨n, a, m, b, rfl, ha, hb⟩ := fit_ss hfit
    have hp : n ≤ 1000 ∧ m ≤ 1000 := hp
    by_cases hnm : n = m
    · refine ⟨bl22 n m a b (a == b), fun Γ hG h0 hg hn => ?_, Gd.of_eq (run22 n m a b (a == b) zs) ⟨fun h => ?_, fun h => ⟨rfl, fun h2 => ?_, fun h2 => ?_⟩⟩⟩
      · refine blOne_in blks22 (loop_ruleV (hG ▸ cxT_ok (fms := []) trivial) hg h0 hn (drawS_sound (hG ▸ cxT_ok (fms := []) trivial) hg h0) (bl := no) (blocksIn_none _) (fun i : Nat => inv22 n a m b i) (fun i => n - i) (fun i => i ≤ n ∧ ∀ j, j < i → a.getD j 0 = b.getD j 0) (a == b) _ _ 100 ks22 js22 rs22 (fun i hi => ?_) 0 ⟨Nat.zero_le _, fun j hj => by omega⟩)
        rw [round22]
        refine ⟨fun h => ?_, fun h => ?_⟩
        · have h := of_decide_eq_true h
          refine ⟨by omega, by omega, by omega, by omega, fun hne => ?_, fun he => ?_⟩
          · have hne' : a ≠ b := fun e => by rw [e] at hne; simp at hne
            have hq : (a == b) = false := by simpa using hne'
            show (Ex.ret, ret22) = cond (a == b) _ _
            rw [hq]; rfl
          · refine ⟨i + 1, ⟨by omega, fun j hj => ?_⟩, ?_, by omega⟩
            · by_cases hji : j = i
              · subst hji; simpa using he
              · exact hi.2 j (by omega)
            · rw [wrap_i64 (by omega) (by omega)]; rfl
        · have h := of_decide_eq_false h
          have hin : i = n := by omega
          have hab : a = b := Tp.eq_of_getD (by omega) (fun j hj => hi.2 j (by omega))
          show (afterX 0 (.exit 0), out22) = cond (a == b) _ _
          have hq : (a == b) = true := by simpa using hab
          rw [hq]; rfl
      · subst hnm; simp at h
      · simp [T.good, alikeV, hnm, h2]
      · simp [T.good, alikeV, hnm, h2]
    · refine ⟨blNone 0, fun Γ _ _ _ _ => blNone_in blks22, Gd.of_eq (run22' n m a b zs) ⟨fun h => ?_, fun h => ?_⟩⟩
      · simp [T.good, alikeV, hnm]
      · have : ((n : Int) != (m : Int)) = true := by simp; omega
        rw [this] at h; cases h
end Go.Proofs.Ytdlhklnpnpmibaa

/- The reference's place of a number, and its order. -/
namespace Go.Proofs.Ytdlhklnpnpmibaa
open Go Go.Sx
set_option maxRecDepth 100000

theorem idx_min {v : Int} : ∀ {l : List Int} {i : Nat}, i < l.length → l.getD i 0 = v → Tp.idx v l ≤ i
  | [], i, h, _ => by simp at h
  | x :: l, i, h, he => by
    simp only [Tp.idx]
    cases hx : x == v with
    | true => exact Nat.zero_le _
    | false =>
      cases i with
      | zero => simp only [List.getD_cons_zero] at he; rw [he] at hx; simp at hx
      | succ i =>
        have := idx_min (v := v) (l := l) (i := i) (by simpa using h) (by simpa using he)
        simp only; omega

theorem fit_sn {e : TypeId} {k k' : IntKind} {st : Nat} {xs : List MV} (h : fitM [.s e k st, .p (.num k')] xs) : ∃ n a v, xs = [.s n a, .p (.n v)] ∧ a.length = n * st := by
  match xs, h with
  | [.s n a, .p (.n v)], h => exact ⟨n, a, v, rfl, h.1⟩
  | [.s _ _, .p (.l _)], h => exact h.2.1.elim
  | [.s _ _, .p (.b _)], h => exact h.2.1.elim
  | [.s _ _, .p (.a _)], h => exact h.2.1.elim
  | [.s _ _, .s _ _], h => exact h.2.elim
  | [.s _ _, .x _], h => exact h.2.elim
  | [.s _ _], h => exact h.2.elim
  | .s _ _ :: .p _ :: _ :: _, h => exact h.2.2.elim
  | .s _ _ :: .s _ _ :: _ :: _, h => exact h.2.elim
  | .s _ _ :: .x _ :: _ :: _, h => exact h.2.elim
  | .p _ :: _, h => exact h.elim
  | .x _ :: _, h => exact h.elim
  | [], h => exact h.elim

noncomputable def lp28 : Code := unloop (Code.blk (body Try.f28) 0)
def ks28 : Fh := ⟨[], [.keep, .soft, .junk, .junk, .junk, .soft] ++ List.replicate 13 .junk, [0], 3⟩
def js28 : Fh := ⟨[], List.replicate 19 .junk, [], 3⟩
def rs28 : Fh := ⟨[], List.replicate 4 .junk ++ [.soft] ++ List.replicate 14 .junk, [], 3⟩
def inv28 (n : Nat) (a : List Int) (v i : Int) : St :=
  ⟨[.sl 0, .int .i64 v, .junk 2, .junk 3, .junk 4, .int .i64 i] ++ junks 6 13, [(0, .vec false 3 .i64 1 n a)], 3⟩
def out28 : St := ⟨junks 0 19, [], 3⟩
def ret28 (i : Int) : St := ⟨junks 0 4 ++ [.int .i64 i] ++ junks 5 14, [], 3⟩

theorem round28 (n : Nat) (a : List Int) (v i : Int) : endV ks28 js28 rs28 (exec (cxT []) (drawS (cxT [])) no 100 lp28 (inv28 n a v i)) =
    .ite (decide (i < (n : Int))) (.need (0 ≤ i ∧ i < (n : Int)) (.need (i.toNat + 1 ≤ n) 
      (.ite (a.getD i.toNat 0 == v) (.ret (.ret, ret28 i)) (.ret (.normal, inv28 n a v (IntKind.i64.wrap (i + 1)))))))
    (.ret (.exit 0, out28)) := by kernel_rfl

noncomputable def bl28 (n : Nat) (a : List Int) (v : Int) (q : Bool) (j : Int) : Blocks := blOne 0 (loopV ks28 (inv28 n a v 0) q (.normal, out28) (.ret, ret28 j))
theorem run28 (n : Nat) (a : List Int) (v : Int) (q : Bool) (j : Int) (zs : Nat → Bool) : runM (cxT []) (bl28 n a v q j) 100 Try.f28 (body Try.f28) [nK, iK] [.s n a, .p (.n v)] zs [iK] [] =
    .need (inv28 n a v 0 = inv28 n a v 0) (.ite q (.ret [.p (.n (-1))]) (.ret [.p (.n j)])) := by kernel_rfl
theorem blks28 : blksL (body Try.f28) 0 = [.loop lp28] := by kernel_rfl

/-- A number's place; -1: it is nowhere. -/
def atV (a : List Int) (v : Int) : Int := cond (Tp.idx v a == a.length) (-1) (Tp.idx v a : Nat)
abbrev atC : MSpec := ctM [nK, iK] (fun | [.s n _, .p (.n _)] => n ≤ 1000 | _ => False) [iK] (fun | [.s _ a, .p (.n v)] => [.p (.n (atV a v))] | _ => [])

theorem fn28 : FnmS Try.prog GT 28 atC :=
  fnm_run (cxT_ok (fms := []) trivial) gmT_is Try.func28 (c := body Try.f28) rfl (enters_of Try.func28 (by kernel_rfl) (by kernel_rfl)) (fuel := 100) (by decide) fun xs zs hfit hp hz => by
    obtain ⟨n, a, v, rfl, ha⟩ := fit_sn hfit
    have hp : n ≤ 1000 := hp
    have hle := Tp.idx_le v a
    refine ⟨bl28 n a v (Tp.idx v a == a.length) (Tp.idx v a : Nat), fun Γ hG h0 hg hn => ?_, Gd.of_eq (run28 n a v _ _ zs) ⟨rfl, fun h2 => ?_, fun h2 => ?_⟩⟩
    · refine blOne_in blks28 (loop_ruleV (hG ▸ cxT_ok (fms := []) trivial) hg h0 hn (drawS_sound (hG ▸ cxT_ok (fms := []) trivial) hg h0) (bl := no) (blocksIn_none _) (fun i : Nat => inv28 n a v i) (fun i => n - i) (fun i => i ≤ n ∧ i ≤ Tp.idx v a) _ _ _ 100 ks28 js28 rs28 (fun i hi => ?_) 0 ⟨Nat.zero_le _, Nat.zero_le _⟩)
      rw [round28]
      refine ⟨fun h => ?_, fun h => ?_⟩
      · have h := of_decide_eq_true h
        refine ⟨by omega, by omega, fun he => ?_, fun hne => ?_⟩
        · have he' : a.getD i 0 = v := by simpa using he
          have := idx_min (by omega) he'
          have hii : Tp.idx v a = i := by omega
          show (Ex.ret, ret28 i) = cond _ _ _
          have hq : (Tp.idx v a == a.length) = false := by simp; omega
          rw [hq, hii]; rfl
        · have hne' : a.getD i 0 ≠ v := by simpa using hne
          refine ⟨i + 1, ⟨by omega, ?_⟩, ?_, by omega⟩
          · have : Tp.idx v a ≠ i := fun e => hne' (by
              have hm := Tp.idx_lt.1 (by omega : Tp.idx v a < a.length)
              rw [← e]; exact Tp.get_idx hm)
            omega
          · rw [wrap_i64 (by omega) (by omega)]; rfl
      · have h := of_decide_eq_false h
        show (afterX 0 (.exit 0), out28) = cond _ _ _
        have hq : (Tp.idx v a == a.length) = true := by simp; omega
        rw [hq]; rfl
    · simp [T.good, atV, h2]
    · simp [T.good, atV, h2]

theorem atV_iff {a : List Int} {v : Int} : atV a v < 0 ↔ v ∉ a := by
  have hle := Tp.idx_le v a
  have := Tp.idx_lt (v := v) (l := a)
  unfold atV
  by_cases h : Tp.idx v a = a.length
  · simp only [h, beq_self_eq_true, cond]
    constructor
    · intro _ hm; have := this.2 hm; omega
    · intro _; omega
  · have hq : (Tp.idx v a == a.length) = false := by simpa using h
    simp only [hq, cond]
    constructor
    · intro hn; omega
    · intro hm; exact absurd (this.1 (by omega)) hm

/-! ### The reference's order -/
/-- Whether numbers are all from 0 on. -/
def ordV (a : List Int) : Bool := (List.range a.length).all fun i => decide (Tp.idx (i : Int) a < a.length)
theorem ordV_iff {a : List Int} : ordV a = true ↔ Tp.isOrder a := by
  simp only [ordV, List.all_eq_true, List.mem_range, decide_eq_true_eq, Tp.isOrder]
  exact ⟨fun h i hi => Tp.idx_lt.1 (h i hi), fun h i hi => Tp.idx_lt.2 (h i hi)⟩
abbrev preO : List MV → Prop := fun | [.s n _] => n ≤ 1000 | _ => False
abbrev orderC : MSpec := ctM [nK] preO [bK] (fun | [.s _ a] => [.p (.b (ordV a))] | _ => [])

noncomputable abbrev cxR : Cx := cxT [(28, atC)]
theorem cxR_ok : CxOk Try.prog GT cxR := cxT_ok (fms := [(28, atC)]) ⟨fn28, trivial⟩
noncomputable def lp24 : Code := unloop (Code.blk (body Try.f24) 0)
def ks24 : Fh := ⟨[], [.keep, .junk, .keep, .soft] ++ List.replicate 10 .junk, [0], 3⟩
def js24 : Fh := ⟨[], List.replicate 14 .junk, [], 3⟩
def rs24 : Fh := ⟨[], List.replicate 2 .junk ++ [.keep] ++ List.replicate 11 .junk, [], 3⟩
def inv24 (n : Nat) (a : List Int) (i : Int) : St := ⟨[.sl 0, .junk 1, .ff, .int .i64 i] ++ junks 4 10, [(0, .vec false 3 .i64 1 n a)], 3⟩
def out24 : St := ⟨junks 0 14, [], 3⟩
def ret24 : St := ⟨junks 0 2 ++ [.ff] ++ junks 3 11, [], 3⟩
theorem round24 (n : Nat) (a : List Int) (i : Int) : endV ks24 js24 rs24 (exec cxR (drawS cxR) no 100 lp24 (inv24 n a i)) =
    .ite (decide (i < (n : Int))) (.need (n ≤ 1000) (.ite (decide (atV a i < 0)) (.ret (.ret, ret24)) (.ret (.normal, inv24 n a (IntKind.i64.wrap (i + 1))))))
    (.ret (.exit 0, out24)) := by kernel_rfl
noncomputable def bl24 (n : Nat) (a : List Int) (q : Bool) : Blocks := blOne 0 (loopV ks24 (inv24 n a 0) q (.normal, out24) (.ret, ret24))
theorem run24 (n : Nat) (a : List Int) (q : Bool) (zs : Nat → Bool) : runM cxR (bl24 n a q) 100 Try.f24 (body Try.f24) [nK] [.s n a] zs [bK] [] =
    .need (inv24 n a 0 = inv24 n a 0) (.ite q (.ret [.p (.b true)]) (.ret [.p (.b false)])) := by kernel_rfl
theorem blks24 : blksL (body Try.f24) 0 = [.loop lp24] := by kernel_rfl

theorem fn24 : FnmS Try.prog GT 24 orderC :=
  fnm_run cxR_ok gmT_is Try.func24 (c := body Try.f24) rfl (enters_of Try.func24 (by kernel_rfl) (by kernel_rfl)) (fuel := 100) (by decide) fun xs zs hfit hp hz => by
    obtain ⟨n, a, rfl, ha⟩ := fit_s hfit
    have hp : n ≤ 1000 := hp
    refine ⟨bl24 n a (ordV a), fun Γ hG h0 hg hn => ?_, Gd.of_eq (run24 n a _ zs) ⟨rfl, fun h2 => ?_, fun h2 => ?_⟩⟩
    · refine blOne_in blks24 (loop_ruleV (hG ▸ cxR_ok) hg h0 hn (drawS_sound (hG ▸ cxR_ok) hg h0) (bl := no) (blocksIn_none _) (fun i : Nat => inv24 n a i) (fun i => n - i) (fun i => i ≤ n ∧ ∀ j : Nat, j < i → (j : Int) ∈ a) _ _ _ 100 ks24 js24 rs24 (fun i hi => ?_) 0 ⟨Nat.zero_le _, fun j hj => by omega⟩)
      rw [round24]
      refine ⟨fun h => ⟨hp, fun hlt => ?_, fun hge => ?_⟩, fun h => ?_⟩
      · have h := of_decide_eq_true h
        have hnm := atV_iff.1 (of_decide_eq_true hlt)
        have hq : ordV a = false := by
          rw [Bool.eq_false_iff]
          intro hc
          exact hnm (ordV_iff.1 hc i (by omega))
        show (Ex.ret, ret24) = cond _ _ _
        rw [hq]; rfl
      · have h := of_decide_eq_true h
        have hm : (i : Int) ∈ a := Classical.byContradiction fun hc => of_decide_eq_false hge (atV_iff.2 hc)
        refine ⟨i + 1, ⟨by omega, fun j hj => ?_⟩, ?_, by omega⟩
        · by_cases hji : j = i
          · subst hji; exact hm
          · exact hi.2 j (by omega)
        · rw [wrap_i64 (by omega) (by omega)]; rfl
      · have h := of_decide_eq_false h
        have hq : ordV a = true := ordV_iff.2 fun j hj => hi.2 j (by omega)
        show (afterX 0 (.exit 0), out24) = cond _ _ _
        rw [hq]; rfl
    · simp [T.good, h2]
    · simp [T.good, h2]
end Go.Proofs.Ytdlhklnpnpmibaa

/- Whether two tapes are alike. -/
namespace Go.Proofs.Ytdlhklnpnpmibaa
open Go Go.Sx
set_option maxRecDepth 100000

theorem fit_xx {xs : List MV} (h : fitM [tK, tK] xs) : ∃ n a u m b v, xs = [.x [.s n a, .l [u]], .x [.s m b, .l [v]]] ∧ a.length = n * 32 ∧ b.length = m * 32 := by
  match xs, h with
  | x :: ys, h =>
    have h1 : fitM [tK] [x] := by
      cases x <;> first | exact h.elim | exact ⟨h.1, trivial⟩
    have h2 : fitM [tK] ys := by
      cases x <;> first | exact h.elim | exact h.2
    obtain ⟨n, a, u, e1, l1⟩ := fit_x h1
    obtain ⟨m, b, v, e2, l2⟩ := fit_x h2
    cases e1
    exact ⟨n, a, u, m, b, v, by rw [e2], l1, l2⟩
  | [], h => exact h.elim

noncomputable def lp13 : Code := unloop (Code.blk (body Try.f13) 0)
def ks13 : Fh := ⟨[], [.junk, .junk, .keep, .keep, .keep, .soft] ++ List.replicate 32 .junk, [0, 1, 2, 3], 20⟩
def js13 : Fh := ⟨[], List.replicate 38 .junk, [], 20⟩
def rs13 : Fh := ⟨[], List.replicate 4 .junk ++ [.keep] ++ List.replicate 33 .junk, [], 20⟩
def inv13 (n : Nat) (a : List Int) (u : Int) (m : Nat) (b : List Int) (v : Int) (i : Int) : St :=
  ⟨[.junk 0, .junk 1, .ptr 2 0 (.lit 0), .ptr 3 0 (.lit 0), .ff, .int .i64 i] ++ junks 6 32,
   [(0, .vec false 27 .u8 32 n a), (1, .vec false 27 .u8 32 m b), (2, .st true [.sl 0, .ints .i64 1 [u]]), (3, .st true [.sl 1, .ints .i64 1 [v]])], 20⟩
def out13 : St := ⟨junks 0 38, [], 20⟩
def ret13 : St := ⟨junks 0 4 ++ [.ff] ++ junks 5 33, [], 20⟩
theorem round13 (n m : Nat) (a b : List Int) (u v i : Int) : endV ks13 js13 rs13 (exec (cxT []) (drawS (cxT [])) no 100 lp13 (inv13 n a u m b v i)) =
    .ite (decide (i < (n : Int))) (.need (0 ≤ i ∧ i < (n : Int)) (.need (i.toNat * 32 + 32 ≤ n * 32) (.need (0 ≤ i ∧ i < (m : Int)) (.need (i.toNat * 32 + 32 ≤ m * 32)
      (.ite (!(sub a (i.toNat * 32) 32 == sub b (i.toNat * 32) 32)) (.ret (.ret, ret13)) (.ret (.normal, inv13 n a u m b v (IntKind.i64.wrap (i + 1)))))))))
    (.ret (.exit 0, out13)) := by kernel_rfl
noncomputable def bl13 (n m : Nat) (a b : List Int) (u v : Int) (q : Bool) : Blocks := blOne 0 (loopV ks13 (inv13 n a u m b v 0) q (.normal, out13) (.ret, ret13))
theorem run13 (n m : Nat) (a b : List Int) (u v : Int) (q : Bool) (zs : Nat → Bool) : runM (cxT []) (bl13 n m a b u v q) 100 Try.f13 (body Try.f13) [tK, tK] [.x [.s n a, .l [u]], .x [.s m b, .l [v]]] zs [bK] [] =
    .ite ((n : Int) != (m : Int)) (.ret [.p (.b false)]) (.ite (u != v) (.ret [.p (.b false)]) (.need (inv13 n a u m b v 0 = inv13 n a u m b v 0) (.ite q (.ret [.p (.b true)]) (.ret [.p (.b false)])))) := by kernel_rfl
theorem run13' (n m : Nat) (a b : List Int) (u v : Int) (zs : Nat → Bool) : runM (cxT []) (blNone 0) 100 Try.f13 (body Try.f13) [tK, tK] [.x [.s n a, .l [u]], .x [.s m b, .l [v]]] zs [bK] [] =
    .ite ((n : Int) != (m : Int)) (.ret [.p (.b false)]) (.ite (u != v) (.ret [.p (.b false)]) (.fail "not reached")) := by kernel_rfl
theorem blks13 : blksL (body Try.f13) 0 = [.loop lp13] := by kernel_rfl

def sameV (n : Nat) (a : List Int) (u : Int) (m : Nat) (b : List Int) (v : Int) : Bool := (n == m) && (u == v) && (a == b)
abbrev sameC : MSpec := ctM [tK, tK] (fun | [.x [.s n _, .l [_]], .x [.s m _, .l [_]]] => n ≤ 1000 ∧ m ≤ 1000 | _ => False) [bK] (fun | [.x [.s n a, .l [u]], .x [.s m b, .l [v]]] => [.p (.b (sameV n a u m b v))] | _ => [])

theorem fn13 : FnmS Try.prog GT 13 sameC :=
  fnm_run (cxT_ok (fms := []) trivial) gmT_is Try.func13 (c := body Try.f13) rfl (enters_of Try.func13 (by kernel_rfl) (by kernel_rfl)) (fuel := 100) (by decide) fun xs zs hfit hp hz => by
    obtain ⟨n, a, u, m, b, v, rfl, ha, hb⟩ := fit_xx hfit
    have hp : n ≤ 1000 ∧ m ≤ 1000 := hp
    by_cases hnm : n = m
    · refine ⟨bl13 n m a b u v (a == b), fun Γ hG h0 hg hn => ?_, Gd.of_eq (run13 n m a b u v (a == b) zs) ⟨fun h => ?_, fun h => ⟨fun h1 => ?_, fun h1 => ⟨rfl, fun h2 => ?_, fun h2 => ?_⟩⟩⟩⟩
      · refine blOne_in blks13 (loop_ruleV (hG ▸ cxT_ok (fms := []) trivial) hg h0 hn (drawS_sound (hG ▸ cxT_ok (fms := []) trivial) hg h0) (bl := no) (blocksIn_none _) (fun i : Nat => inv13 n a u m b v i) (fun i => n - i) (fun i => i ≤ n ∧ ∀ j, j < i → Tp.chunk a j = Tp.chunk b j) (a == b) _ _ 100 ks13 js13 rs13 (fun i hi => ?_) 0 ⟨Nat.zero_le _, fun j hj => by omega⟩)
        rw [round13]
        refine ⟨fun h => ?_, fun h => ?_⟩
        · have h := of_decide_eq_true h
          refine ⟨by omega, by omega, by omega, by omega, fun hne => ?_, fun he => ?_⟩
          · have hne' : a ≠ b := fun e => by rw [e] at hne; simp at hne
            have hq : (a == b) = false := by simpa using hne'
            show (Ex.ret, ret13) = cond (a == b) _ _
            rw [hq]; rfl
          · refine ⟨i + 1, ⟨by omega, fun j hj => ?_⟩, ?_, by omega⟩
            · by_cases hji : j = i
              · subst hji; simpa [Tp.chunk] using he
              · exact hi.2 j (by omega)
            · rw [wrap_i64 (by omega) (by omega)]; rfl
        · have h := of_decide_eq_false h
          have hin : i = n := by omega
          have hab : a = b := Tp.eq_of_chunks (n := n) (by omega) (by omega) (fun j hj => hi.2 j (by omega))
          show (afterX 0 (.exit 0), out13) = cond (a == b) _ _
          have hq : (a == b) = true := by simpa using hab
          rw [hq]; rfl
      · subst hnm; simp at h
      · have : (u == v) = false := by simpa using h1
        simp [T.good, sameV, this]
      · have : (u == v) = true := by simpa using h1
        simp [T.good, sameV, hnm, h2, this]
      · have : (u == v) = true := by simpa using h1
        simp [T.good, sameV, h2]
    · refine ⟨blNone 0, fun Γ _ _ _ _ => blNone_in blks13, Gd.of_eq (run13' n m a b u v zs) ⟨fun h => ?_, fun h => ?_⟩⟩
      · simp [T.good, sameV, hnm]
      · have : ((n : Int) != (m : Int)) = true := by simp; omega
        rw [this] at h; cases h
end Go.Proofs.Ytdlhklnpnpmibaa

/- The order that a map counts. -/
namespace Go.Proofs.Ytdlhklnpnpmibaa
open Go Go.Sx
set_option maxRecDepth 100000

noncomputable def lp23 : Code := unloop (Code.blk (body Try.f23) 0)
def ks23 : Fh := ⟨[], [.keep, .junk, .keep, .keep, .junk, .junk, .junk, .junk, .keep, .keep, .soft] ++ List.replicate 18 .junk, [0, 2], 7⟩
def js23 : Fh := ⟨[], [.keep, .junk, .keep, .keep] ++ List.replicate 25 .junk, [0, 2], 7⟩
abbrev Es := List (List Int × Int)
def mem23 (n : Nat) (a : List Int) (es : Es) : Mem := [(0, .vec false 3 .i64 1 n a), (2, .mp false 1 .i64 .i64 es)]
def inv23 (n : Nat) (a : List Int) (es : Es) (i : Int) : St :=
  ⟨[.sl 0, .junk 1, .ff, .mp 2, .junk 4, .junk 5, .junk 6, .junk 7, .sl 0, .int .i64 n, .int .i64 i] ++ junks 11 18, mem23 n a es, 7⟩
def out23 (n : Nat) (a : List Int) (es : Es) : St := ⟨[.sl 0, .junk 1, .ff, .mp 2] ++ junks 4 25, mem23 n a es, 7⟩
def minc (x : Int) (es : Es) : Es := mput [x] (IntKind.i64.wrap (mget [x] es + 1)) es
theorem round23 (n : Nat) (a : List Int) (es : Es) (i : Int) : endV ks23 js23 js23 (exec (cxT []) (drawS (cxT [])) no 100 lp23 (inv23 n a es i)) =
    .ite (decide (i < (n : Int))) (.need (0 ≤ i ∧ i < (n : Int)) (.need (i.toNat + 1 ≤ n) (.ret (.normal, inv23 n a (minc (a.getD i.toNat 0) es) (IntKind.i64.wrap (i + 1))))))
    (.ret (.exit 0, out23 n a es)) := by kernel_rfl

noncomputable def lp23b : Code := unloop (Code.blk (body Try.f23) 2)
def ks23b : Fh := ⟨[], [.junk, .junk, .keep, .keep] ++ List.replicate 16 .junk ++ [.keep, .soft] ++ List.replicate 7 .junk, [0, 2], 10⟩
def js23b : Fh := ⟨[], List.replicate 29 .junk, [], 10⟩
def rs23b : Fh := ⟨[], List.replicate 2 .junk ++ [.keep] ++ List.replicate 26 .junk, [], 10⟩
def inv23b (n : Nat) (a : List Int) (es : Es) (i : Int) : St := ⟨[.junk 0, .junk 1, .ff, .mp 2] ++ junks 4 16 ++ [.int .i64 n, .int .i64 i] ++ junks 22 7, mem23 n a es, 10⟩
def out23b : St := ⟨junks 0 29, [], 10⟩
def ret23b : St := ⟨junks 0 2 ++ [.ff] ++ junks 3 26, [], 10⟩
theorem round23b (n : Nat) (a : List Int) (es : Es) (i : Int) : endV ks23b js23b rs23b (exec (cxT []) (drawS (cxT [])) no 100 lp23b (inv23b n a es i)) =
    .ite (decide (i < (n : Int))) (.ite (mget [i] es != 1) (.ret (.ret, ret23b)) (.ret (.normal, inv23b n a es (IntKind.i64.wrap (i + 1)))))
    (.ret (.exit 2, out23b)) := by kernel_rfl

noncomputable def bl23 (n : Nat) (a : List Int) (es : Es) (q : Bool) : Blocks :=
  blTwo 0 (loopV ks23 (inv23 n a [] 0) true (.normal, out23 n a es) (.normal, out23 n a es)) 2 (loopV ks23b (inv23b n a es 0) q (.normal, out23b) (.ret, ret23b))
theorem run23 (n : Nat) (a : List Int) (es : Es) (q : Bool) (zs : Nat → Bool) : runM (cxT []) (bl23 n a es q) 100 Try.f23 (body Try.f23) [nK] [.s n a] zs [bK] [] =
    .need (inv23 n a [] 0 = inv23 n a [] 0) (.ite true (.need (inv23b n a es 0 = inv23b n a es 0) (.ite q (.ret [.p (.b true)]) (.ret [.p (.b false)]))) (.need (inv23b n a es 0 = inv23b n a es 0) (.ite q (.ret [.p (.b true)]) (.ret [.p (.b false)])))) := by kernel_rfl
theorem blks23 : blksL (body Try.f23) 0 = [.loop lp23] := by kernel_rfl
theorem blks23b : blksL (body Try.f23) 2 = [.loop lp23b] := by kernel_rfl

/-! ### What is counted -/
theorem mget_mput (v x y : Int) : ∀ es : Es, mget [v] (mput [x] y es) = if v = x then y else mget [v] es
  | [] => by
    simp only [mput, mget]
    by_cases h : v = x
    · subst h; simp
    · have : ([v] == [x]) = false := by simpa using h
      rw [this, if_neg h]
  | (l, z) :: es => by
    simp only [mput]
    cases hl : [x] == l with
    | true =>
      have : l = [x] := by simpa using (beq_iff_eq.1 hl).symm
      subst this
      simp only [mget]
      by_cases h : v = x
      · subst h; simp
      · have : ([v] == [x]) = false := by simpa using h
        rw [this, if_neg h]
    | false =>
      simp only [mget]
      cases hv : [v] == l with
      | true =>
        have hvl : l = [v] := by simpa using (beq_iff_eq.1 hv).symm
        subst hvl
        have hne : ¬ v = x := fun e => by rw [e] at hl; simp at hl
        simp only [if_neg hne]
      | false => simp only [mget_mput v x y es]

def esOf (l : List Int) : Es := l.foldl (fun es x => minc x es) []
theorem esOf_snoc (l : List Int) (x : Int) : esOf (l ++ [x]) = minc x (esOf l) := by simp [esOf]
theorem esOf_count : ∀ (m : Nat) (l : List Int), l.length = m → m ≤ 1000 → ∀ v, mget [v] (esOf l) = (l.count v : Nat)
  | 0, l, hl, _, v => by
    have : l = [] := List.eq_nil_of_length_eq_zero hl
    subst this; rfl
  | m + 1, l, hl, hm, v => by
    obtain ⟨l', x, rfl⟩ : ∃ l' x, l = l' ++ [x] := by
      have hne : l ≠ [] := fun e => by rw [e] at hl; simp at hl
      exact ⟨l.dropLast, l.getLast hne, (List.dropLast_concat_getLast hne).symm⟩
    have hl' : l'.length = m := by simp at hl; omega
    have ih := esOf_count m l' hl' (by omega)
    have hc : l'.count x ≤ l'.length := List.count_le_length
    rw [esOf_snoc]
    unfold minc
    rw [mget_mput, ih x, wrap_i64 (by omega) (by omega), List.count_append]
    by_cases h : v = x
    · subst h; simp
    · rw [if_neg h, ih v]
      have : [x].count v = 0 := by simp [Ne.symm h]
      rw [this]; simp

theorem order_counts {a : List Int} (hl : a.length ≤ 1000) : Tp.isOrder a ↔ ∀ i : Nat, i < a.length → mget [(i : Int)] (esOf a) = 1 := by
  have hc := esOf_count a.length a rfl hl
  constructor
  · intro h i hi
    obtain ⟨hn, -⟩ := Tp.order_spec h
    have hm := h i hi
    rw [hc i]
    have h1 := List.nodup_iff_count.1 hn i
    have h2 := List.count_pos_iff.2 hm
    omega
  · intro h i hi
    have := h i hi
    rw [hc i] at this
    exact List.count_pos_iff.1 (by omega)

theorem take_snoc {a : List Int} {i : Nat} (h : i < a.length) : a.take (i + 1) = a.take i ++ [a.getD i 0] := by
  rw [List.take_succ_eq_append_getElem h]
  simp [List.getD, h]

theorem fn23 : FnmS Try.prog GT 23 orderC :=
  fnm_run (cxT_ok (fms := []) trivial) gmT_is Try.func23 (c := body Try.f23) rfl (enters_of Try.func23 (by kernel_rfl) (by kernel_rfl)) (fuel := 100) (by decide) fun xs zs hfit hp hz => by
    obtain ⟨n, a, rfl, ha⟩ := fit_s hfit
    have hp : n ≤ 1000 := hp
    refine ⟨bl23 n a (esOf a) (ordV a), fun Γ hG h0 hg hn => ?_, Gd.of_eq (run23 n a (esOf a) (ordV a) zs) ⟨rfl, fun _ => ⟨rfl, fun h2 => ?_, fun h2 => ?_⟩, fun h => (by cases h)⟩⟩
    · have hcx := hG ▸ cxT_ok (fms := []) trivial
      refine blTwo_in blks23 blks23b
        (loop_ruleV hcx hg h0 hn (drawS_sound hcx hg h0) (bl := no) (blocksIn_none _) (fun i : Nat => inv23 n a (esOf (a.take i)) i) (fun i => n - i) (fun i => i ≤ n) true _ _ 100 ks23 js23 js23 (fun i hi => ?_) 0 (Nat.zero_le _))
        (loop_ruleV hcx hg h0 hn (drawS_sound hcx hg h0) (bl := no) (blocksIn_none _) (fun i : Nat => inv23b n a (esOf a) i) (fun i => n - i) (fun i => i ≤ n ∧ ∀ j : Nat, j < i → mget [(j : Int)] (esOf a) = 1) (ordV a) _ _ 100 ks23b js23b rs23b (fun i hi => ?_) 0 ⟨Nat.zero_le _, fun j hj => by omega⟩)
      · rw [round23]
        refine ⟨fun h => ?_, fun h => ?_⟩
        · have h := of_decide_eq_true h
          refine ⟨by omega, by omega, i + 1, by omega, ?_, by omega⟩
          rw [wrap_i64 (by omega) (by omega), take_snoc (by omega), esOf_snoc]
          rfl
        · have h := of_decide_eq_false h
          have hin : i = n := by omega
          show (afterX 0 (.exit 0), out23 n a (esOf (a.take i))) = _
          rw [List.take_of_length_le (by omega)]
          rfl
      · rw [round23b]
        refine ⟨fun h => ⟨fun hne => ?_, fun he => ?_⟩, fun h => ?_⟩
        · have h := of_decide_eq_true h
          have hne : mget [(i : Int)] (esOf a) ≠ 1 := by simpa using hne
          have hq : ordV a = false := by
            rw [Bool.eq_false_iff]
            intro hc
            exact hne ((order_counts (by omega)).1 (ordV_iff.1 hc) i (by omega))
          show (Ex.ret, ret23b) = cond _ _ _
          rw [hq]; rfl
        · have h := of_decide_eq_true h
          have he : mget [(i : Int)] (esOf a) = 1 := by simpa using he
          refine ⟨i + 1, ⟨by omega, fun j hj => ?_⟩, ?_, by omega⟩
          · by_cases hji : j = i
            · subst hji; exact he
            · exact hi.2 j (by omega)
          · rw [wrap_i64 (by omega) (by omega)]; rfl
        · have h := of_decide_eq_false h
          have hq : ordV a = true := ordV_iff.2 ((order_counts (by omega)).2 fun j hj => hi.2 j (by omega))
          show (afterX 2 (.exit 2), out23b) = cond _ _ _
          rw [hq]; rfl
    · simp [T.good, h2]
    · simp [T.good, h2]
end Go.Proofs.Ytdlhklnpnpmibaa

/- One order behind another one. -/
namespace Go.Proofs.Ytdlhklnpnpmibaa
open Go Go.Sx
set_option maxRecDepth 100000

noncomputable abbrev cxO : Cx := cxT [(23, orderC)]
theorem cxO_ok : CxOk Try.prog GT cxO := cxT_ok (fms := [(23, orderC)]) ⟨fn23, trivial⟩
noncomputable abbrev cxO' : Cx := cxT [(24, orderC), (28, atC)]
theorem cxO'_ok : CxOk Try.prog GT cxO' := cxT_ok (fms := [(24, orderC), (28, atC)]) ⟨fn24, fn28, trivial⟩
noncomputable def lp20 : Code := unloop (Code.blk (body Try.f20) 0)
def mem20 (n : Nat) (a : List Int) (m : Nat) (b l : List Int) : Mem := [(0, .vec false 3 .i64 1 n a), (1, .vec false 3 .i64 1 m b), (21, .vec true 3 .i64 1 m l)]
def ks20 : Fh := ⟨[], [.keep, .keep] ++ List.replicate 4 .junk ++ [.keep] ++ List.replicate 20 .junk ++ [.keep, .soft] ++ List.replicate 14 .junk, [0, 1, 21], 26⟩
def js20 : Fh := ⟨[], List.replicate 6 .junk ++ [.keep] ++ List.replicate 36 .junk, [21], 26⟩
def inv20 (n : Nat) (a : List Int) (m : Nat) (b l : List Int) (i : Int) : St :=
  ⟨[.sl 0, .sl 1] ++ junks 2 4 ++ [.sl 21] ++ junks 7 20 ++ [.int .i64 m, .int .i64 i] ++ junks 29 14, mem20 n a m b l, 26⟩
def out20 (m : Nat) (l : List Int) : St := ⟨junks 0 6 ++ [.sl 21] ++ junks 7 36, [(21, .vec true 3 .i64 1 m l)], 26⟩

theorem round20 (n m : Nat) (a b l : List Int) (i : Int) : endV ks20 js20 js20 (exec cxO (drawS cxO) no 100 lp20 (inv20 n a m b l i)) =
    .ite (decide (i < (m : Int))) (.need (0 ≤ i ∧ i < (m : Int)) (.need (i.toNat + 1 ≤ m) (.need (0 ≤ b.getD i.toNat 0 ∧ b.getD i.toNat 0 < (n : Int)) (.need ((b.getD i.toNat 0).toNat + 1 ≤ n) (.need (0 ≤ i ∧ i < (m : Int)) (.need (i.toNat + 1 ≤ m)
      (.ret (.normal, inv20 n a m b (l.set i.toNat (a.getD (b.getD i.toNat 0).toNat 0)) (IntKind.i64.wrap (i + 1))))))))))
    (.ret (.exit 0, out20 m l)) := by kernel_rfl
noncomputable def bl20 (n m : Nat) (a b l : List Int) : Blocks := blOne 0 (loopV ks20 (inv20 n a m b (List.replicate m 0) 0) true (.normal, out20 m l) (.normal, out20 m l))
abbrev failV : List MV := [.s 0 [], .p (.n 1)]
theorem run20 (n m : Nat) (a b l : List Int) (zs : Nat → Bool) : runM cxO (bl20 n m a b l) 100 Try.f20 (body Try.f20) [nK, nK] [.s n a, .s m b] zs [nK, iK] [] =
    .ite ((n : Int) != (m : Int)) (.ret failV) (.need (n ≤ 1000) (.ite (!(ordV a)) (.ret failV) (.need (m ≤ 1000) (.ite (!(ordV b)) (.ret failV)
      (.need (0 ≤ (m : Int) ∧ (m : Int) ≤ m ∧ 8 * (m : Int) ≤ 281474976710656 ∧ (m : Int) ≤ 9223372036854775807) (.need (inv20 n a m b (List.replicate m 0) 0 = inv20 n a m b (List.replicate m 0) 0)
        (.ite true (.ret [.s m l, .p (.n 0)]) (.ret [.s m l, .p (.n 0)])))))))) := by kernel_rfl
theorem run20' (n m : Nat) (a b : List Int) (zs : Nat → Bool) : runM cxO (blNone 0) 100 Try.f20 (body Try.f20) [nK, nK] [.s n a, .s m b] zs [nK, iK] [] =
    .ite ((n : Int) != (m : Int)) (.ret failV) (.need (n ≤ 1000) (.ite (!(ordV a)) (.ret failV) (.need (m ≤ 1000) (.ite (!(ordV b)) (.ret failV)
      (.need (0 ≤ (m : Int) ∧ (m : Int) ≤ m ∧ 8 * (m : Int) ≤ 281474976710656 ∧ (m : Int) ≤ 9223372036854775807) (.fail "not reached")))))) := by kernel_rfl
theorem blks20 : blksL (body Try.f20) 0 = [.loop lp20] := by kernel_rfl

theorem fill_set {t : List Int} {m i : Nat} (ht : t.length = m) (hi : i < m) : (t.take i ++ List.replicate (m - i) 0).set i (t.getD i 0) = t.take (i + 1) ++ List.replicate (m - (i + 1)) 0 := by
  have hl : (t.take i).length = i := by simp; omega
  rw [take_snoc (by omega), List.set_append_right _ _ (by omega), hl, Nat.sub_self]
  obtain ⟨k, hk⟩ : ∃ k, m - i = k + 1 := ⟨m - i - 1, by omega⟩
  rw [hk, List.replicate_succ, List.set_cons_zero, show m - (i + 1) = k from by omega, List.append_assoc]
  rfl

def thenV (n : Nat) (a : List Int) (m : Nat) (b : List Int) : List MV := cond ((n == m) && ordV a && ordV b) [.s m (Tp.thenL a b), .p (.n 0)] failV
abbrev thenC : MSpec := ctM [nK, nK] preN [nK, iK] (fun | [.s n a, .s m b] => thenV n a m b | _ => [])

theorem fn20 : FnmS Try.prog GT 20 thenC :=
  fnm_run cxO_ok gmT_is Try.func20 (c := body Try.f20) rfl (enters_of Try.func20 (by kernel_rfl) (by kernel_rfl)) (fuel := 100) (by decide) fun xs zs hfit hp hz => by
    obtain ⟨n, a, m, b, rfl, ha, hb⟩ := fit_ss hfit
    have hp : n ≤ 1000 ∧ m ≤ 1000 := hp
    by_cases hall : n = m ∧ ordV a = true ∧ ordV b = true
    · obtain ⟨hnm, hoa, hob⟩ := hall
      obtain ⟨-, hbb⟩ := Tp.order_spec (ordV_iff.1 hob)
      have hlen := Tp.thenL_length a b
      refine ⟨bl20 n m a b (Tp.thenL a b), fun Γ hG h0 hg hn => ?_, Gd.of_eq (run20 n m a b _ zs) ⟨fun h => ?_, fun _ => ⟨hp.1, fun h => ?_, fun _ => ⟨hp.2, fun h => ?_, fun _ => ⟨by omega, rfl, fun _ => ?_, fun h => (by cases h)⟩⟩⟩⟩⟩
      · have hcx := hG ▸ cxO_ok
        refine blOne_in blks20 (i := 0) (f := loopV ks20 (inv20 n a m b (List.replicate m 0) 0) true (.normal, out20 m (Tp.thenL a b)) (.normal, out20 m (Tp.thenL a b)))
          (loop_ruleV hcx hg h0 hn (drawS_sound hcx hg h0) (bl := no) (blocksIn_none _) (fun i : Nat => inv20 n a m b ((Tp.thenL a b).take i ++ List.replicate (m - i) 0) i) (fun i => m - i) (fun i => i ≤ m) true _ _ 100 ks20 js20 js20 (fun i hi => ?_) 0 (Nat.zero_le _))
        rw [round20]
        refine ⟨fun h => ?_, fun h => ?_⟩
        · have h := of_decide_eq_true h
          have hbi := hbb _ (Tp.getD_mem (l := b) (i := i) (by omega))
          refine ⟨by omega, by omega, ?_, ?_, by omega, by omega, i + 1, by omega, ?_, by omega⟩
          · rw [Int.toNat_natCast]; omega
          · rw [Int.toNat_natCast]; omega
          · rw [wrap_i64 (by omega) (by omega), Int.toNat_natCast, ← Tp.thenL_get (a := a) (by omega), fill_set (by omega) (by omega)]
            rfl
        · have h := of_decide_eq_false h
          have hin : i = m := by omega
          show (afterX 0 (.exit 0), out20 m _) = _
          rw [hin, List.take_of_length_le (by omega), Nat.sub_self]
          simp [afterX]
      · subst hnm; simp at h
      · rw [hoa] at h; cases h
      · rw [hob] at h; cases h
      · simp [T.good, thenV, hnm, hoa, hob]
    · refine ⟨blNone 0, fun Γ _ _ _ _ => blNone_in blks20, Gd.of_eq (run20' n m a b zs) ⟨fun h => ?_, fun h1 => ⟨hp.1, fun h => ?_, fun h2 => ⟨hp.2, fun h => ?_, fun h3 => ?_⟩⟩⟩⟩
      · have hnm : (n == m) = false := by simp at h; simp; omega
        simp [T.good, thenV, hnm]
      · have : ordV a = false := by simpa using h
        simp [T.good, thenV, this]
      · have : ordV b = false := by simpa using h
        simp [T.good, thenV, this]
      · exfalso
        refine hall ⟨?_, by simpa using h2, by simpa using h3⟩
        simp at h1; omega
end Go.Proofs.Ytdlhklnpnpmibaa

/- The order back. -/
namespace Go.Proofs.Ytdlhklnpnpmibaa
open Go Go.Sx
set_option maxRecDepth 100000

noncomputable def lp18 : Code := unloop (Code.blk (body Try.f18) 0)
def mem18 (n : Nat) (a l : List Int) : Mem := [(0, .vec false 3 .i64 1 n a), (8, .vec true 3 .i64 1 n l)]
def ks18 : Fh := ⟨[], [.keep, .junk, .junk, .junk, .keep] ++ List.replicate 8 .junk ++ [.keep, .soft] ++ List.replicate 11 .junk, [0, 8], 13⟩
def js18 : Fh := ⟨[], List.replicate 4 .junk ++ [.keep] ++ List.replicate 21 .junk, [8], 13⟩
def inv18 (n : Nat) (a l : List Int) (i : Int) : St :=
  ⟨[.sl 0, .junk 1, .junk 2, .junk 3, .sl 8] ++ junks 5 8 ++ [.int .i64 n, .int .i64 i] ++ junks 15 11, mem18 n a l, 13⟩
def out18 (n : Nat) (l : List Int) : St := ⟨junks 0 4 ++ [.sl 8] ++ junks 5 21, [(8, .vec true 3 .i64 1 n l)], 13⟩
theorem round18 (n : Nat) (a l : List Int) (i : Int) : endV ks18 js18 js18 (exec cxO (drawS cxO) no 100 lp18 (inv18 n a l i)) =
    .ite (decide (i < (n : Int))) (.need (0 ≤ i ∧ i < (n : Int)) (.need (i.toNat + 1 ≤ n) (.need (0 ≤ a.getD i.toNat 0 ∧ a.getD i.toNat 0 < (n : Int)) (.need ((a.getD i.toNat 0).toNat + 1 ≤ n)
      (.ret (.normal, inv18 n a (l.set (a.getD i.toNat 0).toNat i) (IntKind.i64.wrap (i + 1))))))))
    (.ret (.exit 0, out18 n l)) := by kernel_rfl
noncomputable def bl18 (n : Nat) (a l : List Int) : Blocks := blOne 0 (loopV ks18 (inv18 n a (List.replicate n 0) 0) true (.normal, out18 n l) (.normal, out18 n l))
theorem run18 (n : Nat) (a l : List Int) (zs : Nat → Bool) : runM cxO (bl18 n a l) 100 Try.f18 (body Try.f18) [nK] [.s n a] zs [nK, iK] [] =
    .need (n ≤ 1000) (.ite (!(ordV a)) (.ret failV)
      (.need (0 ≤ (n : Int) ∧ (n : Int) ≤ n ∧ 8 * (n : Int) ≤ 281474976710656 ∧ (n : Int) ≤ 9223372036854775807) (.need (inv18 n a (List.replicate n 0) 0 = inv18 n a (List.replicate n 0) 0)
        (.ite true (.ret [.s n l, .p (.n 0)]) (.ret [.s n l, .p (.n 0)]))))) := by kernel_rfl
theorem run18' (n : Nat) (a : List Int) (zs : Nat → Bool) : runM cxO (blNone 0) 100 Try.f18 (body Try.f18) [nK] [.s n a] zs [nK, iK] [] =
    .need (n ≤ 1000) (.ite (!(ordV a)) (.ret failV)
      (.need (0 ≤ (n : Int) ∧ (n : Int) ≤ n ∧ 8 * (n : Int) ≤ 281474976710656 ∧ (n : Int) ≤ 9223372036854775807) (.fail "not reached"))) := by kernel_rfl
theorem blks18 : blksL (body Try.f18) 0 = [.loop lp18] := by kernel_rfl

/-- Behind i rounds. -/
def backI (a : List Int) (i : Nat) : List Int := (List.range a.length).map fun (v : Nat) => if Tp.idx (v : Int) a < i then ((Tp.idx (v : Int) a : Nat) : Int) else 0
theorem backI_get {a : List Int} {i v : Nat} (h : v < a.length) : (backI a i).getD v 0 = if Tp.idx (v : Int) a < i then ((Tp.idx (v : Int) a : Nat) : Int) else 0 := by
  simp [backI, List.getD, h]
theorem backI_zero (a : List Int) : backI a 0 = List.replicate a.length 0 := by
  refine Tp.eq_of_getD (by simp [backI]) fun v hv => ?_
  have hv : v < a.length := by simpa [backI] using hv
  rw [backI_get hv]
  simp [List.getD, hv]
theorem backI_all {a : List Int} (h : Tp.isOrder a) : backI a a.length = Tp.backL a := by
  refine Tp.eq_of_getD (by simp [backI, Tp.backL]) fun v hv => ?_
  have hv : v < a.length := by simpa [backI] using hv
  rw [backI_get hv, Tp.backL_get hv, if_pos (Tp.idx_lt.2 (h v hv))]
theorem set_same {l : List Int} {p : Nat} {x : Int} (h : p < l.length) : (l.set p x).getD p 0 = x := by simp [List.getD, h]
theorem set_other {l : List Int} {p v : Nat} {x : Int} (h : ¬ p = v) : (l.set p x).getD v 0 = l.getD v 0 := by
  simp only [List.getD]; rw [List.getElem?_set_ne h]
theorem backI_step {a : List Int} (h : Tp.isOrder a) {i : Nat} (hi : i < a.length) : (backI a i).set (a.getD i 0).toNat i = backI a (i + 1) := by
  obtain ⟨hn, hb⟩ := Tp.order_spec h
  have h1 := hb _ (Tp.getD_mem hi)
  refine Tp.eq_of_getD (by simp [backI]) fun v hv => ?_
  have hv : v < a.length := by simpa [backI] using hv
  rw [backI_get hv]
  have hlen : (backI a i).length = a.length := by simp [backI]
  by_cases hve : (a.getD i 0).toNat = v
  · have hva : ((v : Nat) : Int) = a.getD i 0 := by omega
    have hidx : Tp.idx (v : Int) a = i := by rw [hva]; exact Tp.idx_get hn hi
    rw [hidx, if_pos (by omega)]
    rw [hve]
    exact set_same (by omega)
  · have hne : Tp.idx (v : Int) a ≠ i := fun e => by
      have := Tp.get_idx (h v hv)
      rw [e] at this
      omega
    rw [set_other hve, backI_get hv]
    by_cases hlt : Tp.idx (v : Int) a < i
    · rw [if_pos hlt, if_pos (by omega)]
    · rw [if_neg hlt, if_neg (by omega)]

def backV (n : Nat) (a : List Int) : List MV := cond (ordV a) [.s n (Tp.backL a), .p (.n 0)] failV
abbrev backC : MSpec := ctM [nK] preO [nK, iK] (fun | [.s n a] => backV n a | _ => [])
theorem fn18 : FnmS Try.prog GT 18 backC :=
  fnm_run cxO_ok gmT_is Try.func18 (c := body Try.f18) rfl (enters_of Try.func18 (by kernel_rfl) (by kernel_rfl)) (fuel := 100) (by decide) fun xs zs hfit hp hz => by
    obtain ⟨n, a, rfl, ha⟩ := fit_s hfit
    have hp : n ≤ 1000 := hp
    have han : a.length = n := by omega
    by_cases hoa : ordV a = true
    · have ho := ordV_iff.1 hoa
      obtain ⟨-, hb⟩ := Tp.order_spec ho
      refine ⟨bl18 n a (Tp.backL a), fun Γ hG h0 hg hn => ?_, Gd.of_eq (run18 n a _ zs) ⟨hp, fun h => ?_, fun _ => ⟨by omega, rfl, fun _ => ?_, fun h => (by cases h)⟩⟩⟩
      · have hcx := hG ▸ cxO_ok
        have hstart : inv18 n a (List.replicate n 0) 0 = inv18 n a (backI a 0) ((0 : Nat) : Int) := by rw [backI_zero, han]; rfl
        refine blOne_in blks18 (i := 0) (f := loopV ks18 (inv18 n a (List.replicate n 0) 0) true (.normal, out18 n (Tp.backL a)) (.normal, out18 n (Tp.backL a))) ?_
        rw [hstart]
        refine (loop_ruleV hcx hg h0 hn (drawS_sound hcx hg h0) (bl := no) (blocksIn_none _) (fun i : Nat => inv18 n a (backI a i) i) (fun i => n - i) (fun i => i ≤ n) true _ _ 100 ks18 js18 js18 (fun i hi => ?_) 0 (Nat.zero_le _))
        rw [round18]
        refine ⟨fun h => ?_, fun h => ?_⟩
        · have h := of_decide_eq_true h
          have hbi := hb _ (Tp.getD_mem (l := a) (i := i) (by omega))
          refine ⟨by omega, by omega, ?_, ?_, i + 1, by omega, ?_, by omega⟩
          · rw [Int.toNat_natCast]; omega
          · rw [Int.toNat_natCast]; omega
          · rw [wrap_i64 (by omega) (by omega), Int.toNat_natCast, backI_step ho (by omega)]
            rfl
        · have h := of_decide_eq_false h
          have hin : i = n := by omega
          show (afterX 0 (.exit 0), out18 n _) = _
          rw [hin, ← han, backI_all ho]
          rfl
      · rw [hoa] at h; cases h
      · simp [T.good, backV, hoa]
    · have hoa : ordV a = false := by simpa using hoa
      refine ⟨blNone 0, fun Γ _ _ _ _ => blNone_in blks18, Gd.of_eq (run18' n a zs) ⟨hp, fun h => ?_, fun h => ?_⟩⟩
      · simp [T.good, backV, hoa]
      · rw [hoa] at h; cases h
end Go.Proofs.Ytdlhklnpnpmibaa

/- The reference's orders, put together by append. -/
namespace Go.Proofs.Ytdlhklnpnpmibaa
open Go Go.Sx
set_option maxRecDepth 100000

noncomputable def lp21 : Code := unloop (Code.blk (body Try.f21) 0)
def ks21 : Fh := ⟨[⟨.tmp 8, 2, 3, .i64, 1⟩], [.keep, .keep] ++ List.replicate 6 .junk ++ [.keep, .soft] ++ List.replicate 34 .junk, [0, 1, 2], 25⟩
def js21 : Fh := ⟨[], List.replicate 8 .junk ++ [.keep] ++ List.replicate 35 .junk, [2], 25⟩
def inv21 (n : Nat) (a : List Int) (m : Nat) (b : List Int) (c : Nat) (l : List Int) (i : Int) : St :=
  ⟨[.sl 0, .sl 1] ++ junks 2 6 ++ [.sl 2, .int .i64 i] ++ junks 10 34, [(0, .vec false 3 .i64 1 n a), (1, .vec false 3 .i64 1 m b), (2, .vec true 3 .i64 1 c l)], 25⟩
def out21 (c : Nat) (l : List Int) : St := ⟨junks 0 8 ++ [.sl 2] ++ junks 9 35, [(2, .vec true 3 .i64 1 c l)], 25⟩
theorem round21 (n m c : Nat) (a b l : List Int) (i : Int) : endV ks21 js21 js21 (exec cxO' (drawS cxO') no 100 lp21 (inv21 n a m b c l i)) =
    .ite (decide (i < (m : Int))) (.need (0 ≤ i ∧ i < (m : Int)) (.need (i.toNat + 1 ≤ m) (.need (0 ≤ b.getD i.toNat 0 ∧ b.getD i.toNat 0 < (n : Int)) (.need ((b.getD i.toNat 0).toNat + 1 ≤ n) (.need (addO c 1 * 8 ≤ 140737488355328)
      (.ret (.normal, inv21 n a m b (addO c 1) (l ++ [a.getD (b.getD i.toNat 0).toNat 0]) (IntKind.i64.wrap (i + 1)))))))))
    (.ret (.exit 0, out21 c l)) := by kernel_rfl

noncomputable def bl21 (n m : Nat) (a b l : List Int) : Blocks := blOne 0 (loopV ks21 (inv21 n a m b 0 [] 0) true (.normal, out21 m l) (.normal, out21 m l))
theorem run21 (n m : Nat) (a b l : List Int) (zs : Nat → Bool) : runM cxO' (bl21 n m a b l) 100 Try.f21 (body Try.f21) [nK, nK] [.s n a, .s m b] zs [nK, iK] [] =
    .need (n ≤ 1000) (.need (m ≤ 1000) (.ite (!(ordV a)) (.ret failV) (.ite (!(ordV b)) (.ret failV) (.ite ((n : Int) != (m : Int)) (.ret failV)
      (.need (inv21 n a m b 0 [] 0 = inv21 n a m b 0 [] 0) (.ite true (.ret [.s m l, .p (.n 0)]) (.ret [.s m l, .p (.n 0)]))))))) := by kernel_rfl
theorem run21' (n m : Nat) (a b : List Int) (zs : Nat → Bool) : runM cxO' (blNone 0) 100 Try.f21 (body Try.f21) [nK, nK] [.s n a, .s m b] zs [nK, iK] [] =
    .need (n ≤ 1000) (.need (m ≤ 1000) (.ite (!(ordV a)) (.ret failV) (.ite (!(ordV b)) (.ret failV) (.ite ((n : Int) != (m : Int)) (.ret failV) (.fail "not reached"))))) := by kernel_rfl
theorem blks21 : blksL (body Try.f21) 0 = [.loop lp21] := by kernel_rfl

theorem fn21 : FnmS Try.prog GT 21 thenC :=
  fnm_run cxO'_ok gmT_is Try.func21 (c := body Try.f21) rfl (enters_of Try.func21 (by kernel_rfl) (by kernel_rfl)) (fuel := 100) (by decide) fun xs zs hfit hp hz => by
    obtain ⟨n, a, m, b, rfl, ha, hb⟩ := fit_ss hfit
    have hp : n ≤ 1000 ∧ m ≤ 1000 := hp
    by_cases hall : n = m ∧ ordV a = true ∧ ordV b = true
    · obtain ⟨hnm, hoa, hob⟩ := hall
      obtain ⟨-, hbb⟩ := Tp.order_spec (ordV_iff.1 hob)
      have hlen := Tp.thenL_length a b
      refine ⟨bl21 n m a b (Tp.thenL a b), fun Γ hG h0 hg hn => ?_, Gd.of_eq (run21 n m a b _ zs) ⟨hp.1, hp.2, fun h => ?_, fun _ => ⟨fun h => ?_, fun _ => ⟨fun h => ?_, fun _ => ⟨rfl, fun _ => ?_, fun h => (by cases h)⟩⟩⟩⟩⟩
      · have hcx := hG ▸ cxO'_ok
        refine blOne_in blks21 (i := 0) (f := loopV ks21 (inv21 n a m b 0 [] 0) true (.normal, out21 m (Tp.thenL a b)) (.normal, out21 m (Tp.thenL a b)))
          (loop_ruleV hcx hg h0 hn (drawS_sound hcx hg h0) (bl := no) (blocksIn_none _) (fun i : Nat => inv21 n a m b i ((Tp.thenL a b).take i) i) (fun i => m - i) (fun i => i ≤ m) true _ _ 100 ks21 js21 js21 (fun i hi => ?_) 0 (Nat.zero_le _))
        rw [round21]
        refine ⟨fun h => ?_, fun h => ?_⟩
        · have h := of_decide_eq_true h
          have hbi := hbb _ (Tp.getD_mem (l := b) (i := i) (by omega))
          refine ⟨by omega, by omega, ?_, ?_, by rw [addO_eq]; omega, i + 1, by omega, ?_, by omega⟩
          · rw [Int.toNat_natCast]; omega
          · rw [Int.toNat_natCast]; omega
          · rw [wrap_i64 (by omega) (by omega), Int.toNat_natCast, ← Tp.thenL_get (a := a) (by omega), ← take_snoc (by omega), addO_eq]
            rfl
        · have h := of_decide_eq_false h
          have hin : i = m := by omega
          show (afterX 0 (.exit 0), out21 i _) = _
          rw [hin, List.take_of_length_le (by omega)]
          rfl
      · rw [hoa] at h; cases h
      · rw [hob] at h; cases h
      · subst hnm; simp at h
      · simp [T.good, thenV, hnm, hoa, hob]
    · refine ⟨blNone 0, fun Γ _ _ _ _ => blNone_in blks21, Gd.of_eq (run21' n m a b zs) ⟨hp.1, hp.2, fun h => ?_, fun h2 => ⟨fun h => ?_, fun h3 => ⟨fun h => ?_, fun h1 => ?_⟩⟩⟩⟩
      · have : ordV a = false := by simpa using h
        simp [T.good, thenV, this]
      · have : ordV b = false := by simpa using h
        simp [T.good, thenV, this]
      · have hnm : (n == m) = false := by simp at h; simp; omega
        simp [T.good, thenV, hnm]
      · exfalso
        refine hall ⟨?_, by simpa using h2, by simpa using h3⟩
        simp at h1; omega
end Go.Proofs.Ytdlhklnpnpmibaa

/- The reference's order back. -/
namespace Go.Proofs.Ytdlhklnpnpmibaa
open Go Go.Sx
set_option maxRecDepth 100000

noncomputable def lp19 : Code := unloop (Code.blk (body Try.f19) 0)
def ks19 : Fh := ⟨[⟨.tmp 5, 1, 3, .i64, 1⟩], [.keep] ++ List.replicate 4 .junk ++ [.keep, .soft] ++ List.replicate 17 .junk, [0, 1], 10⟩
def js19 : Fh := ⟨[], List.replicate 5 .junk ++ [.keep] ++ List.replicate 18 .junk, [1], 10⟩
def inv19 (n : Nat) (a : List Int) (c : Nat) (l : List Int) (i : Int) : St :=
  ⟨[.sl 0] ++ junks 1 4 ++ [.sl 1, .int .i64 i] ++ junks 7 17, [(0, .vec false 3 .i64 1 n a), (1, .vec true 3 .i64 1 c l)], 10⟩
def out19 (c : Nat) (l : List Int) : St := ⟨junks 0 5 ++ [.sl 1] ++ junks 6 18, [(1, .vec true 3 .i64 1 c l)], 10⟩
theorem round19 (n c : Nat) (a l : List Int) (i : Int) : endV ks19 js19 js19 (exec cxO' (drawS cxO') no 100 lp19 (inv19 n a c l i)) =
    .ite (decide (i < (n : Int))) (.need (n ≤ 1000) (.need (addO c 1 * 8 ≤ 140737488355328)
      (.ret (.normal, inv19 n a (addO c 1) (l ++ [atV a i]) (IntKind.i64.wrap (i + 1))))))
    (.ret (.exit 0, out19 c l)) := by kernel_rfl
noncomputable def bl19 (n : Nat) (a l : List Int) : Blocks := blOne 0 (loopV ks19 (inv19 n a 0 [] 0) true (.normal, out19 n l) (.normal, out19 n l))
theorem run19 (n : Nat) (a l : List Int) (zs : Nat → Bool) : runM cxO' (bl19 n a l) 100 Try.f19 (body Try.f19) [nK] [.s n a] zs [nK, iK] [] =
    .need (n ≤ 1000) (.ite (!(ordV a)) (.ret failV)
      (.need (inv19 n a 0 [] 0 = inv19 n a 0 [] 0) (.ite true (.ret [.s n l, .p (.n 0)]) (.ret [.s n l, .p (.n 0)])))) := by kernel_rfl
theorem run19' (n : Nat) (a : List Int) (zs : Nat → Bool) : runM cxO' (blNone 0) 100 Try.f19 (body Try.f19) [nK] [.s n a] zs [nK, iK] [] =
    .need (n ≤ 1000) (.ite (!(ordV a)) (.ret failV) (.fail "not reached")) := by kernel_rfl
theorem blks19 : blksL (body Try.f19) 0 = [.loop lp19] := by kernel_rfl

theorem atV_back {a : List Int} (h : Tp.isOrder a) {i : Nat} (hi : i < a.length) : atV a i = (Tp.backL a).getD i 0 := by
  rw [Tp.backL_get hi]
  have := Tp.idx_lt.2 (h i hi)
  unfold atV
  have hq : (Tp.idx (i : Int) a == a.length) = false := by simp; omega
  rw [hq]; rfl

theorem fn19 : FnmS Try.prog GT 19 backC :=
  fnm_run cxO'_ok gmT_is Try.func19 (c := body Try.f19) rfl (enters_of Try.func19 (by kernel_rfl) (by kernel_rfl)) (fuel := 100) (by decide) fun xs zs hfit hp hz => by
    obtain ⟨n, a, rfl, ha⟩ := fit_s hfit
    have hp : n ≤ 1000 := hp
    have han : a.length = n := by omega
    by_cases hoa : ordV a = true
    · have ho := ordV_iff.1 hoa
      have hlen := Tp.backL_length a
      refine ⟨bl19 n a (Tp.backL a), fun Γ hG h0 hg hn => ?_, Gd.of_eq (run19 n a _ zs) ⟨hp, fun h => ?_, fun _ => ⟨rfl, fun _ => ?_, fun h => (by cases h)⟩⟩⟩
      · have hcx := hG ▸ cxO'_ok
        refine blOne_in blks19 (i := 0) (f := loopV ks19 (inv19 n a 0 [] 0) true (.normal, out19 n (Tp.backL a)) (.normal, out19 n (Tp.backL a)))
          (loop_ruleV hcx hg h0 hn (drawS_sound hcx hg h0) (bl := no) (blocksIn_none _) (fun i : Nat => inv19 n a i ((Tp.backL a).take i) i) (fun i => n - i) (fun i => i ≤ n) true _ _ 100 ks19 js19 js19 (fun i hi => ?_) 0 (Nat.zero_le _))
        rw [round19]
        refine ⟨fun h => ?_, fun h => ?_⟩
        · have h := of_decide_eq_true h
          refine ⟨hp, by rw [addO_eq]; omega, i + 1, by omega, ?_, by omega⟩
          rw [wrap_i64 (by omega) (by omega), atV_back ho (by omega), ← take_snoc (by omega), addO_eq]
          rfl
        · have h := of_decide_eq_false h
          have hin : i = n := by omega
          show (afterX 0 (.exit 0), out19 i _) = _
          rw [hin, List.take_of_length_le (by omega)]
          rfl
      · rw [hoa] at h; cases h
      · simp [T.good, backV, hoa]
    · have hoa : ordV a = false := by simpa using hoa
      refine ⟨blNone 0, fun Γ _ _ _ _ => blNone_in blks19, Gd.of_eq (run19' n a zs) ⟨hp, fun h => ?_, fun h => ?_⟩⟩
      · simp [T.good, backV, hoa]
      · rw [hoa] at h; cases h
end Go.Proofs.Ytdlhklnpnpmibaa

/- Draws, turned. -/
namespace Go.Proofs.Ytdlhklnpnpmibaa
open Go Go.Sx
set_option maxRecDepth 100000

noncomputable abbrev cxU : Cx := cxT [(23, orderC), (25, cloneC)]
theorem cxU_ok : CxOk Try.prog GT cxU := cxT_ok (fms := [(23, orderC), (25, cloneC)]) ⟨fn23, fn25, trivial⟩
noncomputable def lp11 : Code := unloop (Code.blk (body Try.f11) 0)
def nil11 : Blk := .st true [.raw (.slice none 0 0), .ints .i64 1 [0]]
def mem11 (n : Nat) (d : List Int) (u : Int) (m : Nat) (o l : List Int) : Mem :=
  [(0, .vec false 27 .u8 32 n d), (1, .vec false 3 .i64 1 m o), (2, .st true [.sl 0, .ints .i64 1 [u]]), (3, nil11), (18, .vec true 27 .u8 32 m l), (20, .st true [.sl 18, .ints .i64 1 [0]])]
def p0 (b : Nat) : SV := .ptr b 0 (.lit 0)
def ks11 : Fh := ⟨[], [.junk, .keep, .keep, .junk, .keep, .junk, .keep] ++ List.replicate 23 .junk ++ [.keep, .soft] ++ List.replicate 16 .junk, [0, 1, 2, 3, 18, 20], 25⟩
def js11 : Fh := ⟨[], List.replicate 4 .junk ++ [.keep, .junk, .keep] ++ List.replicate 41 .junk, [3, 18, 20], 25⟩
def inv11 (n : Nat) (d : List Int) (u : Int) (m : Nat) (o l : List Int) (i : Int) : St :=
  ⟨[.junk 0, .sl 1, p0 2, .junk 3, p0 3, .junk 5, p0 20] ++ junks 7 23 ++ [.int .i64 m, .int .i64 i] ++ junks 32 16, mem11 n d u m o l, 25⟩
def out11 (m : Nat) (l : List Int) : St := ⟨junks 0 4 ++ [p0 3, .junk 5, p0 20] ++ junks 7 41, [(3, nil11), (18, .vec true 27 .u8 32 m l), (20, .st true [.sl 18, .ints .i64 1 [0]])], 25⟩
theorem round11 (n m : Nat) (d o l : List Int) (u i : Int) : endV ks11 js11 js11 (exec cxU (drawS cxU) no 100 lp11 (inv11 n d u m o l i)) =
    .ite (decide (i < (m : Int))) (.need (0 ≤ i ∧ i < (m : Int)) (.need (i.toNat + 1 ≤ m) (.need (0 ≤ o.getD i.toNat 0 ∧ o.getD i.toNat 0 < (n : Int)) (.need ((o.getD i.toNat 0).toNat * 32 + 32 ≤ n * 32) (.need (0 ≤ i ∧ i < (m : Int)) (.need (i.toNat * 32 + 32 ≤ m * 32)
      (.ret (.normal, inv11 n d u m o (splice l (i.toNat * 32) (sub d ((o.getD i.toNat 0).toNat * 32) 32)) (IntKind.i64.wrap (i + 1))))))))))
    (.ret (.exit 0, out11 m l)) := by kernel_rfl
theorem blks11 : blksL (body Try.f11) 0 = [.loop lp11] := by kernel_rfl
end Go.Proofs.Ytdlhklnpnpmibaa

/- Draws, turned: the contract. -/
namespace Go.Proofs.Ytdlhklnpnpmibaa
open Go Go.Sx
set_option maxRecDepth 100000

theorem fit_xs {xs : List MV} (h : fitM [tK, nK] xs) : ∃ n d u m o, xs = [.x [.s n d, .l [u]], .s m o] ∧ d.length = n * 32 ∧ o.length = m * 1 := by
  match xs, h with
  | x :: ys, h =>
    have h1 : fitM [tK] [x] := by
      cases x <;> first | exact h.elim | exact ⟨h.1, trivial⟩
    have h2 : fitM [nK] ys := by
      cases x <;> first | exact h.elim | exact h.2
    obtain ⟨n, d, u, e1, l1⟩ := fit_x h1
    obtain ⟨m, o, e2, l2⟩ := fit_s h2
    cases e1
    exact ⟨n, d, u, m, o, by rw [e2], l1, l2⟩
  | [], h => exact h.elim

abbrev failT (n : Nat) (d : List Int) (u : Int) : List MV := [.x [.s n d, .l [u]], .p (.n 1)]
def turnV (n : Nat) (d : List Int) (u : Int) (m : Nat) (o : List Int) : List MV := cond ((n == m) && ordV o) [.x [.s m (Tp.turnL d o), .l [0]], .p (.n 0)] (failT n d u)
abbrev preTN : List MV → Prop := fun | [.x [.s n _, .l [_]], .s m _] => n ≤ 1000 ∧ m ≤ 1000 | _ => False
abbrev turnC : MSpec := ctM [tK, nK] preTN [tK, iK] (fun | [.x [.s n d, .l [u]], .s m o] => turnV n d u m o | _ => [])

noncomputable def bl11 (n m : Nat) (d o l : List Int) (u : Int) : Blocks := blOne 0 (loopV ks11 (inv11 n d u m o (List.replicate (m * 32) 0) 0) true (.normal, out11 m l) (.normal, out11 m l))
theorem run11 (n m : Nat) (d o l : List Int) (u : Int) (zs : Nat → Bool) : runM cxU (bl11 n m d o l u) 100 Try.f11 (body Try.f11) [tK, nK] [.x [.s n d, .l [u]], .s m o] zs [tK, iK] [] =
    .ite ((m : Int) != (n : Int)) (.need (n ≤ 1000) (.ret (failT n d u))) (.need (m ≤ 1000) (.ite (!(ordV o)) (.need (n ≤ 1000) (.ret (failT n d u)))
      (.need (0 ≤ (m : Int) ∧ (m : Int) ≤ m ∧ 32 * (m : Int) ≤ 281474976710656 ∧ (m : Int) ≤ 9223372036854775807) (.need (inv11 n d u m o (List.replicate (m * 32) 0) 0 = inv11 n d u m o (List.replicate (m * 32) 0) 0)
        (.ite true (.ret [.x [.s m l, .l [0]], .p (.n 0)]) (.ret [.x [.s m l, .l [0]], .p (.n 0)])))))) := by kernel_rfl
theorem run11' (n m : Nat) (d o : List Int) (u : Int) (zs : Nat → Bool) : runM cxU (blNone 0) 100 Try.f11 (body Try.f11) [tK, nK] [.x [.s n d, .l [u]], .s m o] zs [tK, iK] [] =
    .ite ((m : Int) != (n : Int)) (.need (n ≤ 1000) (.ret (failT n d u))) (.need (m ≤ 1000) (.ite (!(ordV o)) (.need (n ≤ 1000) (.ret (failT n d u)))
      (.need (0 ≤ (m : Int) ∧ (m : Int) ≤ m ∧ 32 * (m : Int) ≤ 281474976710656 ∧ (m : Int) ≤ 9223372036854775807) (.fail "not reached")))) := by kernel_rfl

theorem fill_splice {t : List Int} {m i : Nat} (ht : t.length = m * 32) (hi : i < m) : splice (t.take (i * 32) ++ List.replicate ((m - i) * 32) 0) (i * 32) (Tp.chunk t i) = t.take ((i + 1) * 32) ++ List.replicate ((m - (i + 1)) * 32) 0 := by
  have hl : (t.take (i * 32)).length = i * 32 := by simp; omega
  have hc : (Tp.chunk t i).length = 32 := Tp.chunk_length ht hi
  unfold splice
  rw [hc]
  have e1 : (t.take (i * 32) ++ List.replicate ((m - i) * 32) 0).take (i * 32) = t.take (i * 32) := by
    rw [List.take_append_of_le_length (by omega), List.take_of_length_le (by omega)]
  have e2 : (t.take (i * 32) ++ List.replicate ((m - i) * 32) (0 : Int)).drop (i * 32 + 32) = List.replicate ((m - (i + 1)) * 32) 0 := by
    rw [List.drop_append, List.drop_of_length_le (by omega), List.nil_append, hl, List.drop_replicate]
    congr 1; omega
  have e3 : t.take (i * 32) ++ Tp.chunk t i = t.take ((i + 1) * 32) := by
    rw [show (i + 1) * 32 = i * 32 + 32 from by omega, List.take_add]
    rfl
  rw [e1, e2, e3]

theorem fn11 : FnmS Try.prog GT 11 turnC :=
  fnm_run cxU_ok gmT_is Try.func11 (c := body Try.f11) rfl (enters_of Try.func11 (by kernel_rfl) (by kernel_rfl)) (fuel := 100) (by decide) fun xs zs hfit hp hz => by
    obtain ⟨n, d, u, m, o, rfl, hd, hom⟩ := fit_xs hfit
    have hp : n ≤ 1000 ∧ m ≤ 1000 := hp
    by_cases hall : n = m ∧ ordV o = true
    · obtain ⟨hnm, ho⟩ := hall
      obtain ⟨-, hb⟩ := Tp.order_spec (ordV_iff.1 ho)
      obtain ⟨tl, tc⟩ := Tp.turnL_spec (l := d) (o := o) (n := n) hd (fun x hx => by have := hb x hx; omega)
      have tl : (Tp.turnL d o).length = m * 32 := by omega
      refine ⟨bl11 n m d o (Tp.turnL d o) u, fun Γ hG h0 hg hn => ?_, Gd.of_eq (run11 n m d o _ u zs) ⟨fun h => ?_, fun _ => ⟨hp.2, fun h => ?_, fun _ => ⟨by omega, rfl, fun _ => ?_, fun h => (by cases h)⟩⟩⟩⟩
      · have hcx := hG ▸ cxU_ok
        refine blOne_in blks11 (i := 0) (f := loopV ks11 (inv11 n d u m o (List.replicate (m * 32) 0) 0) true (.normal, out11 m (Tp.turnL d o)) (.normal, out11 m (Tp.turnL d o))) ?_
        have hstart : inv11 n d u m o (List.replicate (m * 32) 0) 0 = inv11 n d u m o ((Tp.turnL d o).take (0 * 32) ++ List.replicate ((m - 0) * 32) 0) ((0 : Nat) : Int) := by simp
        rw [hstart]
        refine (loop_ruleV hcx hg h0 hn (drawS_sound hcx hg h0) (bl := no) (blocksIn_none _) (fun i : Nat => inv11 n d u m o ((Tp.turnL d o).take (i * 32) ++ List.replicate ((m - i) * 32) 0) i) (fun i => m - i) (fun i => i ≤ m) true _ _ 100 ks11 js11 js11 (fun i hi => ?_) 0 (Nat.zero_le _))
        rw [round11]
        refine ⟨fun h => ?_, fun h => ?_⟩
        · have h := of_decide_eq_true h
          have hbi := hb _ (Tp.getD_mem (l := o) (i := i) (by omega))
          refine ⟨by omega, by omega, ?_, ?_, by omega, by omega, i + 1, by omega, ?_, by omega⟩
          · rw [Int.toNat_natCast]; omega
          · rw [Int.toNat_natCast]; omega
          · have hch := tc i (by omega)
            rw [wrap_i64 (by omega) (by omega), Int.toNat_natCast]
            have : sub d ((o.getD i 0).toNat * 32) 32 = Tp.chunk (Tp.turnL d o) i := hch.symm
            rw [this, fill_splice tl (by omega)]
            rfl
        · have h := of_decide_eq_false h
          have hin : i = m := by omega
          show (afterX 0 (.exit 0), out11 m _) = _
          rw [hin, List.take_of_length_le (by omega), Nat.sub_self]
          simp [afterX]
      · subst hnm; simp at h
      · rw [ho] at h; cases h
      · simp [T.good, turnV, hnm, ho]
    · refine ⟨blNone 0, fun Γ _ _ _ _ => blNone_in blks11, Gd.of_eq (run11' n m d o u zs) ⟨fun h => ⟨hp.1, ?_⟩, fun h1 => ⟨hp.2, fun h => ⟨hp.1, ?_⟩, fun h2 => ?_⟩⟩⟩
      · have hnm : (n == m) = false := by simp at h; simp; omega
        simp [T.good, turnV, hnm]
      · have : ordV o = false := by simpa using h
        simp [T.good, turnV, this]
      · exfalso
        refine hall ⟨?_, by simpa using h2⟩
        simp at h1; omega
end Go.Proofs.Ytdlhklnpnpmibaa

/- Draws, turned by the reference. -/
namespace Go.Proofs.Ytdlhklnpnpmibaa
open Go Go.Sx
set_option maxRecDepth 100000

noncomputable abbrev cxU' : Cx := cxT [(24, orderC), (27, copyC)]
theorem cxU'_ok : CxOk Try.prog GT cxU' := cxT_ok (fms := [(24, orderC), (27, copyC)]) ⟨fn24, fn27, trivial⟩
noncomputable def lp12 : Code := unloop (Code.blk (body Try.f12) 0)
def mem12 (n : Nat) (d : List Int) (u : Int) (m : Nat) (o : List Int) (c : Nat) (l : List Int) : Mem :=
  [(0, .vec false 27 .u8 32 n d), (1, .vec false 3 .i64 1 m o), (2, .st true [.sl 0, .ints .i64 1 [u]]), (3, nil11), (4, .vec true 27 .u8 32 c l), (19, .st true [.sl 4, .ints .i64 1 [0]])]
def ks12 : Fh := ⟨[⟨.cell 19 0, 4, 27, .u8, 32⟩], [.junk, .keep, .keep, .junk, .keep, .junk, .junk, .keep, .soft] ++ List.replicate 35 .junk, [0, 1, 2, 3, 4, 19], 22⟩
def js12 : Fh := ⟨[], List.replicate 4 .junk ++ [.keep, .junk, .junk, .keep] ++ List.replicate 36 .junk, [3, 4, 19], 22⟩
def inv12 (n : Nat) (d : List Int) (u : Int) (m : Nat) (o : List Int) (c : Nat) (l : List Int) (i : Int) : St :=
  ⟨[.junk 0, .sl 1, p0 2, .junk 3, p0 3, .junk 5, .junk 6, p0 19, .int .i64 i] ++ junks 9 35, mem12 n d u m o c l, 22⟩
def out12 (c : Nat) (l : List Int) : St := ⟨junks 0 4 ++ [p0 3, .junk 5, .junk 6, p0 19] ++ junks 8 36, [(3, nil11), (4, .vec true 27 .u8 32 c l), (19, .st true [.sl 4, .ints .i64 1 [0]])], 22⟩
theorem round12 (n m c : Nat) (d o l : List Int) (u i : Int) : endV ks12 js12 js12 (exec cxU' (drawS cxU') no 100 lp12 (inv12 n d u m o c l i)) =
    .ite (decide (i < (m : Int))) (.need (0 ≤ i ∧ i < (m : Int)) (.need (i.toNat + 1 ≤ m) (.need (0 ≤ o.getD i.toNat 0 ∧ o.getD i.toNat 0 < (n : Int)) (.need ((o.getD i.toNat 0).toNat * 32 + 32 ≤ n * 32) (.need (addO c 1 * 32 ≤ 140737488355328)
      (.ret (.normal, inv12 n d u m o (addO c 1) (l ++ sub d ((o.getD i.toNat 0).toNat * 32) 32) (IntKind.i64.wrap (i + 1)))))))))
    (.ret (.exit 0, out12 c l)) := by kernel_rfl
theorem blks12 : blksL (body Try.f12) 0 = [.loop lp12] := by kernel_rfl

noncomputable def bl12 (n m : Nat) (d o l : List Int) (u : Int) : Blocks := blOne 0 (loopV ks12 (inv12 n d u m o 0 [] 0) true (.normal, out12 m l) (.normal, out12 m l))
theorem run12 (n m : Nat) (d o l : List Int) (u : Int) (zs : Nat → Bool) : runM cxU' (bl12 n m d o l u) 100 Try.f12 (body Try.f12) [tK, nK] [.x [.s n d, .l [u]], .s m o] zs [tK, iK] [] =
    .need (m ≤ 1000) (.ite (!(ordV o)) (.need (n ≤ 1000) (.ret (failT n d u))) (.ite ((m : Int) != (n : Int)) (.need (n ≤ 1000) (.ret (failT n d u)))
      (.need (inv12 n d u m o 0 [] 0 = inv12 n d u m o 0 [] 0) (.ite true (.ret [.x [.s m l, .l [0]], .p (.n 0)]) (.ret [.x [.s m l, .l [0]], .p (.n 0)]))))) := by kernel_rfl
theorem run12' (n m : Nat) (d o : List Int) (u : Int) (zs : Nat → Bool) : runM cxU' (blNone 0) 100 Try.f12 (body Try.f12) [tK, nK] [.x [.s n d, .l [u]], .s m o] zs [tK, iK] [] =
    .need (m ≤ 1000) (.ite (!(ordV o)) (.need (n ≤ 1000) (.ret (failT n d u))) (.ite ((m : Int) != (n : Int)) (.need (n ≤ 1000) (.ret (failT n d u))) (.fail "not reached"))) := by kernel_rfl

theorem fn12 : FnmS Try.prog GT 12 turnC :=
  fnm_run cxU'_ok gmT_is Try.func12 (c := body Try.f12) rfl (enters_of Try.func12 (by kernel_rfl) (by kernel_rfl)) (fuel := 100) (by decide) fun xs zs hfit hp hz => by
    obtain ⟨n, d, u, m, o, rfl, hd, hom⟩ := fit_xs hfit
    have hp : n ≤ 1000 ∧ m ≤ 1000 := hp
    by_cases hall : n = m ∧ ordV o = true
    · obtain ⟨hnm, ho⟩ := hall
      obtain ⟨-, hb⟩ := Tp.order_spec (ordV_iff.1 ho)
      obtain ⟨tl, tc⟩ := Tp.turnL_spec (l := d) (o := o) (n := n) hd (fun x hx => by have := hb x hx; omega)
      have tl : (Tp.turnL d o).length = m * 32 := by omega
      refine ⟨bl12 n m d o (Tp.turnL d o) u, fun Γ hG h0 hg hn => ?_, Gd.of_eq (run12 n m d o _ u zs) ⟨hp.2, fun h => ?_, fun _ => ⟨fun h => ?_, fun _ => ⟨rfl, fun _ => ?_, fun h => (by cases h)⟩⟩⟩⟩
      · have hcx := hG ▸ cxU'_ok
        refine blOne_in blks12 (i := 0) (f := loopV ks12 (inv12 n d u m o 0 [] 0) true (.normal, out12 m (Tp.turnL d o)) (.normal, out12 m (Tp.turnL d o))) ?_
        have hstart : inv12 n d u m o 0 [] 0 = inv12 n d u m o 0 ((Tp.turnL d o).take (0 * 32)) ((0 : Nat) : Int) := by simp
        rw [hstart]
        refine (loop_ruleV hcx hg h0 hn (drawS_sound hcx hg h0) (bl := no) (blocksIn_none _) (fun i : Nat => inv12 n d u m o i ((Tp.turnL d o).take (i * 32)) i) (fun i => m - i) (fun i => i ≤ m) true _ _ 100 ks12 js12 js12 (fun i hi => ?_) 0 (Nat.zero_le _))
        rw [round12]
        refine ⟨fun h => ?_, fun h => ?_⟩
        · have h := of_decide_eq_true h
          have hbi := hb _ (Tp.getD_mem (l := o) (i := i) (by omega))
          refine ⟨by omega, by omega, ?_, ?_, by rw [addO_eq]; omega, i + 1, by omega, ?_, by omega⟩
          · rw [Int.toNat_natCast]; omega
          · rw [Int.toNat_natCast]; omega
          · have hch := tc i (by omega)
            rw [wrap_i64 (by omega) (by omega), Int.toNat_natCast, addO_eq]
            have : sub d ((o.getD i 0).toNat * 32) 32 = Tp.chunk (Tp.turnL d o) i := hch.symm
            have e3 : (Tp.turnL d o).take (i * 32) ++ Tp.chunk (Tp.turnL d o) i = (Tp.turnL d o).take ((i + 1) * 32) := by
              rw [show (i + 1) * 32 = i * 32 + 32 from by omega, List.take_add]
              rfl
            rw [this, e3]
            rfl
        · have h := of_decide_eq_false h
          have hin : i = m := by omega
          show (afterX 0 (.exit 0), out12 i _) = _
          rw [hin, List.take_of_length_le (by omega)]
          rfl
      · rw [ho] at h; cases h
      · subst hnm; simp at h
      · simp [T.good, turnV, hnm, ho]
    · refine ⟨blNone 0, fun Γ _ _ _ _ => blNone_in blks12, Gd.of_eq (run12' n m d o u zs) ⟨hp.2, fun h => ⟨hp.1, ?_⟩, fun h2 => ⟨fun h => ⟨hp.1, ?_⟩, fun h1 => ?_⟩⟩⟩
      · have : ordV o = false := by simpa using h
        simp [T.good, turnV, this]
      · have hnm : (n == m) = false := by simp at h; simp; omega
        simp [T.good, turnV, hnm]
      · exfalso
        refine hall ⟨?_, by simpa using h2⟩
        simp at h1; omega
end Go.Proofs.Ytdlhklnpnpmibaa

/- Whether draws that are used come twice: the map. -/
namespace Go.Proofs.Ytdlhklnpnpmibaa
open Go Go.Sx
set_option maxRecDepth 100000

noncomputable def lp16 : Code := unloop (Code.blk (body Try.f16) 0)
def ks16 : Fh := ⟨[], [.junk, .keep, .keep, .keep] ++ List.replicate 4 .junk ++ [.keep, .keep, .soft] ++ List.replicate 19 .junk, [0, 1, 3], 9⟩
def js16 : Fh := ⟨[], List.replicate 30 .junk, [], 9⟩
def rs16 : Fh := ⟨[], List.replicate 2 .junk ++ [.soft] ++ List.replicate 27 .junk, [], 9⟩
def inv16 (n : Nat) (d : List Int) (u : Int) (es : Es) (i : Int) : St :=
  ⟨[.junk 0, .ptr 1 0 (.lit 0), .ff, .mp 3, .junk 4, .junk 5, .junk 6, .junk 7, .sl 0, .int .i64 n, .int .i64 i] ++ junks 11 19, [(0, .vec false 27 .u8 32 n d), (1, .st true [.sl 0, .ints .i64 1 [u]]), (3, .mp true 32 .u8 .i64 es)], 9⟩
def out16 : St := ⟨junks 0 30, [], 9⟩
def ret16 : St := ⟨junks 0 2 ++ [.bool true] ++ junks 3 27, [], 9⟩
def kinc (key : List Int) (es : Es) : Es := mset (IntKind.i64.wrap (mget key es + 1)) (mix key es) (madd key es)
theorem round16 (n : Nat) (d : List Int) (u i : Int) (es : Es) : endV ks16 js16 rs16 (exec (cxT []) (drawS (cxT [])) no 100 lp16 (inv16 n d u es i)) =
    .ite (decide (i < (n : Int))) (.need (0 ≤ i ∧ i < (n : Int)) (.need (i.toNat * 32 + 32 ≤ n * 32) (.ite (decide (i ≥ u)) (.ret (.exit 0, out16))
      (.need (0 ≤ ((mix (sub d (i.toNat * 32) 32) es : Nat) : Int) ∧ ((mix (sub d (i.toNat * 32) 32) es : Nat) : Int) < ((madd (sub d (i.toNat * 32) 32) es).length : Int) ∧ ((mix (sub d (i.toNat * 32) 32) es : Nat) : Int) ≤ 9223372036854775807)
        (.ite (decide (mget (sub d (i.toNat * 32) 32) (kinc (sub d (i.toNat * 32) 32) es) > 1)) (.ret (.ret, ret16)) (.ret (.normal, inv16 n d u (kinc (sub d (i.toNat * 32) 32) es) (IntKind.i64.wrap (i + 1)))))))))
    (.ret (.exit 0, out16)) := by kernel_rfl
theorem blks16 : blksL (body Try.f16) 0 = [.loop lp16] := by kernel_rfl

/-! ### What is counted -/
/-- The draws that are used, up to m. -/
def useL (l : List Int) (m : Nat) : List (List Int) := (List.range m).map (Tp.chunk l)
theorem useL_succ (l : List Int) (m : Nat) : useL l (m + 1) = useL l m ++ [Tp.chunk l m] := by simp [useL, List.range_succ]
theorem useL_length (l : List Int) (m : Nat) : (useL l m).length = m := by simp [useL]
theorem useL_get {l : List Int} {m i : Nat} (hi : i < m) : (useL l m)[i]? = some (Tp.chunk l i) := by simp [useL, hi]
/-- Whether no draw that is used comes twice. -/
def lone (n : Nat) (l : List Int) (u : Int) : Bool := decide (useL l (min n u.toNat)).Nodup

theorem madd_len (key : List Int) (es : Es) : es.length ≤ (madd key es).length ∧ (madd key es).length ≤ es.length + 1 := by
  unfold madd; split <;> simp
theorem mix_madd (key : List Int) : ∀ es : Es, mix key (madd key es) = mix key es ∧ mix key es < (madd key es).length := by
  intro es
  unfold madd
  induction es with
  | nil => simp [mhas, mix]
  | cons p es ih =>
    obtain ⟨k, x⟩ := p
    simp only [mhas, mix]
    cases h : key == k with
    | true => simp [mix, h]
    | false =>
      simp only
      cases hm : mhas key es with
      | true => rw [hm] at ih; simp only [mix, h] at ih ⊢; simpa using ih
      | false =>
        rw [hm] at ih
        simp only [List.cons_append, mix, h, List.length_cons] at ih ⊢
        simpa using ih
theorem mset_length (x : Int) : ∀ (j : Nat) (es : Es), (mset x j es).length = es.length
  | _, [] => by simp [mset]
  | 0, _ :: _ => by simp [mset]
  | j + 1, _ :: es => by simp [mset, mset_length x j es]
theorem mget_mset (key key' : List Int) (x : Int) : ∀ es : Es, mhas key es = true → mget key' (mset x (mix key es) es) = if key' = key then x else mget key' es
  | [], h => by simp [mhas] at h
  | (k, y) :: es, h => by
    simp only [mhas] at h
    simp only [mix]
    cases hk : key == k with
    | true =>
      have : key = k := by simpa using hk
      subst this
      simp only [mset, mget]
      by_cases hh : key' = key
      · subst hh; simp
      · have : (key' == key) = false := by simpa using hh
        rw [this, if_neg hh]
    | false =>
      rw [hk] at h
      simp only [mset, mget]
      cases hk' : key' == k with
      | true =>
        have e1 : key' = k := by simpa using hk'
        have : ¬ key' = key := fun e => by rw [← e, e1] at hk; simp at hk
        rw [if_neg this]
      | false => exact mget_mset key key' x es h
theorem mhas_madd (key : List Int) : ∀ es : Es, mhas key (madd key es) = true := by
  intro es
  unfold madd
  cases h : mhas key es with
  | true => simpa using h
  | false =>
    simp only
    induction es with
    | nil => simp [mhas]
    | cons p es ih =>
      obtain ⟨k, x⟩ := p
      simp only [mhas] at h
      simp only [List.cons_append, mhas]
      cases hk : key == k with
      | true => rfl
      | false => rw [hk] at h; exact ih h
theorem kinc_get (key key' : List Int) (es : Es) : mget key' (kinc key es) = if key' = key then IntKind.i64.wrap (mget key es + 1) else mget key' es := by
  unfold kinc
  rw [← (mix_madd key es).1, mget_mset _ _ _ _ (mhas_madd key es), mget_madd]
theorem kinc_len (key : List Int) (es : Es) : (kinc key es).length ≤ es.length + 1 := by
  unfold kinc; rw [mset_length]; exact (madd_len key es).2

/-- The map behind i draws. -/
def esU (l : List Int) : Nat → Es
  | 0 => []
  | i + 1 => kinc (Tp.chunk l i) (esU l i)
theorem esU_len (l : List Int) : ∀ i, (esU l i).length ≤ i
  | 0 => by simp [esU]
  | i + 1 => by have := kinc_len (Tp.chunk l i) (esU l i); have := esU_len l i; simp only [esU]; omega
theorem esU_count (l : List Int) : ∀ i, i ≤ 1000 → ∀ key, mget key (esU l i) = ((useL l i).count key : Nat)
  | 0, _, key => by simp [esU, useL, mget]
  | i + 1, hi, key => by
    have hc : (useL l i).count (Tp.chunk l i) ≤ (useL l i).length := List.count_le_length
    rw [useL_length] at hc
    have ih := esU_count l i (by omega)
    rw [esU, kinc_get, useL_succ, List.count_append, ih, ih, wrap_i64 (by omega) (by omega)]
    by_cases h : key = Tp.chunk l i
    · subst h; simp
    · rw [if_neg h]
      have : [Tp.chunk l i].count key = 0 := by simp [Ne.symm h]
      rw [this]; simp
theorem useL_sub {l : List Int} {i m : Nat} (h : i ≤ m) : (useL l i).Sublist (useL l m) := by
  unfold useL
  exact (List.range_sublist.2 h).map _
theorem useL_nodup {l : List Int} {i : Nat} (hn : (useL l i).Nodup) (h : (useL l i).count (Tp.chunk l i) = 0) : (useL l (i + 1)).Nodup := by
  rw [useL_succ, List.nodup_append]
  refine ⟨hn, by simp, fun x hx y hy => ?_⟩
  simp only [List.mem_cons, List.not_mem_nil, or_false] at hy
  subst hy
  intro e; subst e
  have := List.count_pos_iff.2 hx
  omega

noncomputable def bl16 (n : Nat) (d : List Int) (u : Int) (q : Bool) : Blocks := blOne 0 (loopV ks16 (inv16 n d u [] 0) q (.normal, out16) (.ret, ret16))
theorem run16 (n : Nat) (d : List Int) (u : Int) (q : Bool) (zs : Nat → Bool) : runM (cxT []) (bl16 n d u q) 100 Try.f16 (body Try.f16) [tK] [.x [.s n d, .l [u]]] zs [bK] [] =
    .need (inv16 n d u [] 0 = inv16 n d u [] 0) (.ite q (.ret [.p (.b false)]) (.ret [.p (.b true)])) := by kernel_rfl

abbrev repC : MSpec := ctM [tK] preX [bK] (fun | [.x [.s n l, .l [u]]] => [.p (.b (!(lone n l u)))] | _ => [])
theorem fn16 : FnmS Try.prog GT 16 repC :=
  fnm_run (cxT_ok (fms := []) trivial) gmT_is Try.func16 (c := body Try.f16) rfl (enters_of Try.func16 (by kernel_rfl) (by kernel_rfl)) (fuel := 100) (by decide) fun xs zs hfit hp hz => by
    obtain ⟨n, l, u, rfl, hl⟩ := fit_x hfit
    have hp : n ≤ 1000 := hp
    refine ⟨bl16 n l u (lone n l u), fun Γ hG h0 hg hn => ?_, Gd.of_eq (run16 n l u _ zs) ⟨rfl, fun h => ?_, fun h => ?_⟩⟩
    · have hcx := hG ▸ cxT_ok (fms := []) trivial
      refine blOne_in blks16 (loop_ruleV hcx hg h0 hn (drawS_sound hcx hg h0) (bl := no) (blocksIn_none _) (fun i : Nat => inv16 n l u (esU l i) i) (fun i => n - i) (fun i => i ≤ n ∧ (i = 0 ∨ (i : Int) ≤ u) ∧ (useL l i).Nodup) (lone n l u) _ _ 100 ks16 js16 rs16 (fun i hi => ?_) 0 ⟨Nat.zero_le _, .inl rfl, by simp [useL]⟩)
      obtain ⟨hin, hiu, hnd⟩ := hi
      have hout : min n u.toNat = i → (Ex.normal, out16) = cond (lone n l u) (Ex.normal, out16) (Ex.ret, ret16) := fun e => by
        have : lone n l u = true := by unfold lone; rw [e]; simpa using hnd
        rw [this]; rfl
      rw [round16]
      refine ⟨fun h => ?_, fun h => ?_⟩
      · have h := of_decide_eq_true h
        have hmix := (mix_madd (Tp.chunk l i) (esU l i)).2
        have hlen := (madd_len (Tp.chunk l i) (esU l i)).2
        have hlen2 := esU_len l i
        have hkey : sub l ((i : Int).toNat * 32) 32 = Tp.chunk l i := rfl
        rw [hkey]
        refine ⟨by omega, by omega, fun hge => ?_, fun hlt => ⟨⟨by omega, by omega, by omega⟩, fun htwo => ?_, fun hone => ?_⟩⟩
        · have hge := of_decide_eq_true hge
          exact hout (by omega)
        · have htwo := of_decide_eq_true htwo
          have hlt := of_decide_eq_false hlt
          have hc : (useL l i).count (Tp.chunk l i) ≤ (useL l i).length := List.count_le_length
          rw [useL_length] at hc
          rw [kinc_get, if_pos rfl, esU_count l i (by omega), wrap_i64 (by omega) (by omega)] at htwo
          have hq : lone n l u = false := by
            unfold lone
            rw [decide_eq_false_iff_not]
            intro hnd2
            have h3 := List.Nodup.sublist (useL_sub (l := l) (i := i + 1) (m := min n u.toNat) (by omega)) hnd2
            rw [useL_succ, List.nodup_append] at h3
            have hm : Tp.chunk l i ∈ useL l i := List.count_pos_iff.1 (by omega)
            exact h3.2.2 _ hm _ (by simp) rfl
          show (Ex.ret, ret16) = cond _ _ _
          rw [hq]; rfl
        · have hone := of_decide_eq_false hone
          have hlt := of_decide_eq_false hlt
          have hc : (useL l i).count (Tp.chunk l i) ≤ (useL l i).length := List.count_le_length
          rw [useL_length] at hc
          rw [kinc_get, if_pos rfl, esU_count l i (by omega), wrap_i64 (by omega) (by omega)] at hone
          refine ⟨i + 1, ⟨by omega, .inr (by omega), useL_nodup hnd (by omega)⟩, ?_, by omega⟩
          rw [wrap_i64 (by omega) (by omega)]; rfl
      · have h := of_decide_eq_false h
        exact hout (by omega)
    · simp [T.good, h]
    · simp [T.good, h]
end Go.Proofs.Ytdlhklnpnpmibaa

/- The reference's Repeats: a loop in a loop. -/
namespace Go.Proofs.Ytdlhklnpnpmibaa
open Go Go.Sx
set_option maxRecDepth 100000

noncomputable def lp17 : Code := unloop (Code.blk (body Try.f17) 0)
noncomputable def lp17b : Code := unloop (Code.blk (body Try.f17) 2)
def mem17 (n : Nat) (d : List Int) (u : Int) : Mem := [(0, .vec false 27 .u8 32 n d), (1, .st true [.sl 0, .ints .i64 1 [u]])]
def ks17b : Fh := ⟨[], [.junk, .keep, .keep, .soft, .soft] ++ List.replicate 29 .junk, [0, 1], 16⟩
def js17b : Fh := ⟨[], [.junk, .keep, .keep, .soft] ++ List.replicate 30 .junk, [0, 1], 16⟩
def rs17 : Fh := ⟨[], List.replicate 2 .junk ++ [.soft] ++ List.replicate 31 .junk, [], 16⟩
def inv17b (n : Nat) (d : List Int) (u i k : Int) : St := ⟨[.junk 0, .ptr 1 0 (.lit 0), .ff, .int .i64 i, .int .i64 k] ++ junks 5 29, mem17 n d u, 16⟩
def out17b (n : Nat) (d : List Int) (u i : Int) : St := ⟨[.junk 0, .ptr 1 0 (.lit 0), .ff, .int .i64 i] ++ junks 4 30, mem17 n d u, 16⟩
def ret17 : St := ⟨junks 0 2 ++ [.bool true] ++ junks 3 31, [], 16⟩
theorem round17b (n : Nat) (d : List Int) (u i k : Int) : endV ks17b js17b rs17 (exec (cxT []) (drawS (cxT [])) no 100 lp17b (inv17b n d u i k)) =
    .ite (decide (k < i)) (.need (0 ≤ i ∧ i < (n : Int)) (.need (i.toNat * 32 + 32 ≤ n * 32) (.need (0 ≤ k ∧ k < (n : Int)) (.need (k.toNat * 32 + 32 ≤ n * 32)
      (.ite (sub d (i.toNat * 32) 32 == sub d (k.toNat * 32) 32) (.ret (.ret, ret17)) (.ret (.normal, inv17b n d u i (IntKind.i64.wrap (k + 1)))))))))
    (.ret (.exit 2, out17b n d u i)) := by kernel_rfl
theorem blks17b : blksL lp17 2 = [.loop lp17b] := by kernel_rfl
theorem blks17 : blksL (body Try.f17) 0 = [.loop lp17] := by kernel_rfl

/-- Whether draw i is none of those ahead of it. -/
def newB (d : List Int) (i : Nat) : Bool := decide (Tp.chunk d i ∉ useL d i)
def bl17b (n : Nat) (d : List Int) (u : Int) : Blocks := blOne 2 fun S => match getS S.tmps 3 with
  | .int _ i => .need (0 ≤ i ∧ i < (n : Int)) (loopV ks17b (inv17b n d u i 0) (newB d i.toNat) (.normal, out17b n d u i) (.ret, ret17) S)
  | _ => .fail "no number"
def ks17 : Fh := ⟨[], [.junk, .keep, .keep, .soft] ++ List.replicate 30 .junk, [0, 1], 4⟩
def js17 : Fh := ⟨[], List.replicate 34 .junk, [], 16⟩
def inv17 (n : Nat) (d : List Int) (u i : Int) : St := ⟨[.junk 0, .ptr 1 0 (.lit 0), .ff, .int .i64 i] ++ junks 4 30, mem17 n d u, 4⟩
def out17 : St := ⟨junks 0 34, [], 16⟩
theorem round17 (n : Nat) (d : List Int) (u i : Int) : endV ks17 js17 rs17 (exec (cxT []) (drawS (cxT [])) (bl17b n d u) 100 lp17 (inv17 n d u i)) =
    .ite (decide (i < (n : Int))) (.ite (decide (i < u)) (.need (0 ≤ i ∧ i < (n : Int)) (.need (inv17b n d u i 0 = inv17b n d u i 0) (.ite (newB d i.toNat) (.ret (.normal, inv17 n d u (IntKind.i64.wrap (i + 1)))) (.ret (.ret, ret17)))))
      (.ret (.exit 0, out17))) (.ret (.exit 0, out17)) := by kernel_rfl

theorem mem_useL {d : List Int} {m : Nat} {x : List Int} : x ∈ useL d m ↔ ∃ j, j < m ∧ Tp.chunk d j = x := by simp [useL]

theorem bl17b_in {Γ : Gam} (hcx : CxOk Try.prog Γ.G (cxT [])) (h0 : Γ.G Γ.w0) (hg : GlobOk Γ) (hn : Γ.n0 = 0) {n : Nat} {d : List Int} {u : Int} (hp : n ≤ 1000) : BlocksIn Try.prog Γ (bl17b n d u) lp17 := by
  refine blOne_in blks17b fun S e S' hr => ?_
  split at hr
  · rename_i k i hi
    rw [T.reach_need] at hr
    obtain ⟨hb, hr⟩ := hr
    refine loop_ruleV hcx hg h0 hn (drawS_sound hcx hg h0) (bl := no) (blocksIn_none _) (fun k : Nat => inv17b n d u i k) (fun k => i.toNat - k) (fun k => (k : Int) ≤ i ∧ Tp.chunk d i.toNat ∉ useL d k) (newB d i.toNat) _ _ 100 ks17b js17b rs17 (fun k hk => ?_) 0 ⟨by omega, by simp [useL]⟩ S e S' hr
    rw [round17b]
    refine ⟨fun h => ?_, fun h => ?_⟩
    · have h := of_decide_eq_true h
      refine ⟨hb, by omega, by omega, by omega, fun he => ?_, fun hne => ?_⟩
      · have he : Tp.chunk d i.toNat = Tp.chunk d k := by simpa [Tp.chunk] using he
        have hq : newB d i.toNat = false := by
          unfold newB
          rw [decide_eq_false_iff_not]
          exact fun hc => hc (mem_useL.2 ⟨k, by omega, he.symm⟩)
        show (Ex.ret, ret17) = cond _ _ _
        rw [hq]; rfl
      · have hne : Tp.chunk d i.toNat ≠ Tp.chunk d k := by simpa [Tp.chunk] using hne
        refine ⟨k + 1, ⟨by omega, fun hc => ?_⟩, ?_, by omega⟩
        · rw [useL_succ, List.mem_append] at hc
          rcases hc with hc | hc
          · exact hk.2 hc
          · simp only [List.mem_cons, List.not_mem_nil, or_false] at hc; exact hne hc
        · rw [wrap_i64 (by omega) (by omega)]; rfl
    · have h := of_decide_eq_false h
      have hki : i.toNat = k := by omega
      have hq : newB d i.toNat = true := by
        unfold newB
        have := hk.2
        rw [← hki] at this
        simpa using this
      show (afterX 2 (.exit 2), out17b n d u i) = cond _ _ _
      rw [hq]; rfl
  · exact (T.reach_fail hr).elim

noncomputable def bl17 (n : Nat) (d : List Int) (u : Int) (q : Bool) : Blocks := blOne 0 (loopV ks17 (inv17 n d u 0) q (.normal, out17) (.ret, ret17))
theorem run17 (n : Nat) (d : List Int) (u : Int) (q : Bool) (zs : Nat → Bool) : runM (cxT []) (bl17 n d u q) 100 Try.f17 (body Try.f17) [tK] [.x [.s n d, .l [u]]] zs [bK] [] =
    .need (inv17 n d u 0 = inv17 n d u 0) (.ite q (.ret [.p (.b false)]) (.ret [.p (.b true)])) := by kernel_rfl

theorem fn17 : FnmS Try.prog GT 17 repC :=
  fnm_run (cxT_ok (fms := []) trivial) gmT_is Try.func17 (c := body Try.f17) rfl (enters_of Try.func17 (by kernel_rfl) (by kernel_rfl)) (fuel := 100) (by decide) fun xs zs hfit hp hz => by
    obtain ⟨n, l, u, rfl, hl⟩ := fit_x hfit
    have hp : n ≤ 1000 := hp
    refine ⟨bl17 n l u (lone n l u), fun Γ hG h0 hg hn => ?_, Gd.of_eq (run17 n l u _ zs) ⟨rfl, fun h => ?_, fun h => ?_⟩⟩
    · have hcx := hG ▸ cxT_ok (fms := []) trivial
      refine blOne_in blks17 (loop_ruleV hcx hg h0 hn (drawS_sound hcx hg h0) (bl := bl17b n l u) (bl17b_in hcx h0 hg hn hp) (fun i : Nat => inv17 n l u i) (fun i => n - i) (fun i => i ≤ n ∧ (i = 0 ∨ (i : Int) ≤ u) ∧ (useL l i).Nodup) (lone n l u) _ _ 100 ks17 js17 rs17 (fun i hi => ?_) 0 ⟨Nat.zero_le _, .inl rfl, by simp [useL]⟩)
      have hin := hi.1
      have hiu := hi.2.1
      have hnd := hi.2.2
      have hout : min n u.toNat = i → (Ex.normal, out17) = cond (lone n l u) (Ex.normal, out17) (Ex.ret, ret17) := fun e => by
        have : lone n l u = true := by unfold lone; rw [e]; simpa using hnd
        rw [this]; rfl
      rw [round17]
      refine ⟨fun h => ⟨fun h2 => ⟨?_, rfl, fun hnew => ?_, fun hold => ?_⟩, fun h2 => ?_⟩, fun h => ?_⟩
      · have h := of_decide_eq_true h
        omega
      · have h := of_decide_eq_true h
        have h2 := of_decide_eq_true h2
        have hnew : Tp.chunk l i ∉ useL l i := of_decide_eq_true hnew
        refine ⟨i + 1, ⟨by omega, .inr (by omega), useL_nodup hnd (List.count_eq_zero.2 hnew)⟩, ?_, by omega⟩
        rw [wrap_i64 (by omega) (by omega)]; rfl
      · have h := of_decide_eq_true h
        have h2 := of_decide_eq_true h2
        have hm : Tp.chunk l i ∈ useL l i := Classical.byContradiction fun hc => of_decide_eq_false hold hc
        have hq : lone n l u = false := by
          unfold lone
          rw [decide_eq_false_iff_not]
          intro hnd2
          have h3 := List.Nodup.sublist (useL_sub (l := l) (i := i + 1) (m := min n u.toNat) (by omega)) hnd2
          rw [useL_succ, List.nodup_append] at h3
          exact h3.2.2 _ hm _ (by simp) rfl
        show (Ex.ret, ret17) = cond _ _ _
        rw [hq]; rfl
      · have h2 := of_decide_eq_false h2
        have h := of_decide_eq_true h
        exact hout (by omega)
      · have h := of_decide_eq_false h
        exact hout (by omega)
    · simp [T.good, h]
    · simp [T.good, h]
end Go.Proofs.Ytdlhklnpnpmibaa

/- The calls at the head of all laws: true. -/
namespace Go.Proofs.Ytdlhklnpnpmibaa
open Go Go.Sx
set_option maxRecDepth 100000

noncomputable abbrev fB : List (Nat × MSpec) := [(9, nextC), (11, turnC), (14, leftC), (16, repC), (18, backC), (20, thenC), (22, numbersC), (23, orderC)]
theorem fB_ok : FnmsOk Try.prog GT fB := ⟨fn9, fn11, fn14, fn16, fn18, fn20, fn22, fn23, trivial⟩
/-- Needs, one behind the other. -/
def needs {α : Type} : List Prop → T α → T α
  | [], t => t
  | p :: ps, t => .need p (needs ps t)
theorem needs_good {α : Type} {Q : α → Prop} {t : T α} (h : t.good Q) : ∀ {ps : List Prop}, (∀ p ∈ ps, p) → (needs ps t).good Q
  | [], _ => h
  | p :: ps, hp => ⟨hp p (by simp), needs_good h fun q hq => hp q (by simp [hq])⟩
abbrev upK : T (List MV) := .ret [.p (.b true)]
abbrev le1 (n : Nat) : Prop := n ≤ 1000
abbrev yes : Prop := true = true
theorem run8 (zs : Nat → Bool) : prune (runM (cxT fB) no 100 Try.f8 (body Try.f8) [] [] zs [bK] []) (false :: List.replicate 40 true) =
    needs [le1 3, le1 3 ∧ le1 3, le1 3, le1 3 ∧ le1 3, le1 0, le1 0, false = false, yes, yes, yes, (0 : Int) ≤ 0 ∧ (0 : Int) < 3, 32 ≤ 96, yes, yes, le1 3 ∧ le1 3, yes, yes, le1 3 ∧ le1 3, yes, yes, yes, yes, le1 3, yes, le1 3, yes, le1 2, yes, le1 2, yes, le1 2, yes] upK := by kernel_rfl

abbrev upC : MSpec := ctM [] (fun _ => True) [bK] (fun _ => [.p (.b true)])
theorem fit_0 {xs : List MV} (h : fitM [] xs) : xs = [] := by
  cases xs with
  | nil => rfl
  | cons _ _ => exact h.elim
theorem fn8 : FnmS Try.prog GT 8 upC :=
  fnm_run (cxT_ok fB_ok) gmT_is Try.func8 rfl (enters_of Try.func8 (by kernel_rfl) (by kernel_rfl)) (fuel := 100) (by decide) fun xs zs hfit _ hz => by
    obtain rfl := fit_0 hfit
    exact ⟨no, noBl, Gd.of_run (run8 zs) ⟨needs_good (Q := fun r => r = [.p (.b true)]) (t := upK) (show _ = _ from rfl) (by simp)⟩⟩
end Go.Proofs.Ytdlhklnpnpmibaa

/- The contracts, told in parts: so that a caller's run goes on whatever was answered. -/
namespace Go.Proofs.Ytdlhklnpnpmibaa
open Go Go.Sx
set_option maxRecDepth 100000

/-! ### Next -/
def nxB (n : Nat) (u : Int) : Bool := rightV n u && !(u == (n : Int))
def nxD (n : Nat) (l : List Int) (u : Int) : List Int := cond (nxB n u) (sub l (u.toNat * 32) 32) zz
def nxU (n : Nat) (u : Int) : Int := cond (nxB n u) (u + 1) u
def nxE (n : Nat) (u : Int) : Int := cond (rightV n u) (cond (u == (n : Int)) 110 0) 1
def nextP (n : Nat) (l : List Int) (u : Int) : List MV := [.p (.l (nxD n l u)), .x [.s n l, .l [nxU n u]], .p (.n (nxE n u))]
theorem nextV_eq : nextV = nextP := by
  funext n l u
  unfold nextV nextP nxD nxU nxE nxB
  cases rightV n u <;> cases u == (n : Int) <;> rfl
abbrev nextQ : MSpec := ctM [tK] preX nextK (fun | [.x [.s n l, .l [u]]] => nextP n l u | _ => [])
theorem fn9' : FnmS Try.prog GT 9 nextQ := by have h := fn9; simp only [nextC, nextV_eq] at h; exact h
theorem fn10' : FnmS Try.prog GT 10 nextQ := by have h := fn10; simp only [nextC, nextV_eq] at h; exact h

/-! ### Turn -/
def tuB (n m : Nat) (o : List Int) : Bool := (n == m) && ordV o
def tuN (n m : Nat) (o : List Int) : Nat := cond (tuB n m o) m n
def tuD (n : Nat) (d : List Int) (m : Nat) (o : List Int) : List Int := cond (tuB n m o) (Tp.turnL d o) d
def tuU (n : Nat) (u : Int) (m : Nat) (o : List Int) : Int := cond (tuB n m o) 0 u
def tuE (n m : Nat) (o : List Int) : Int := cond (tuB n m o) 0 1
def turnP (n : Nat) (d : List Int) (u : Int) (m : Nat) (o : List Int) : List MV := [.x [.s (tuN n m o) (tuD n d m o), .l [tuU n u m o]], .p (.n (tuE n m o))]
theorem turnV_eq : turnV = turnP := by
  funext n d u m o
  unfold turnV turnP tuN tuD tuU tuE tuB
  cases (n == m) && ordV o <;> rfl
abbrev turnQ : MSpec := ctM [tK, nK] preTN [tK, iK] (fun | [.x [.s n d, .l [u]], .s m o] => turnP n d u m o | _ => [])
theorem fn11' : FnmS Try.prog GT 11 turnQ := by have h := fn11; simp only [turnC, turnV_eq] at h; exact h
theorem fn12' : FnmS Try.prog GT 12 turnQ := by have h := fn12; simp only [turnC, turnV_eq] at h; exact h
theorem tuN_eq (n m : Nat) (o : List Int) : tuN n m o = n := by
  unfold tuN tuB
  by_cases h : n = m
  · subst h; cases (n == n) && ordV o <;> rfl
  · have : (n == m) = false := by simpa using h
    simp [this]

/-! ### Back, Then -/
def baN (n : Nat) (a : List Int) : Nat := cond (ordV a) n 0
def baL (a : List Int) : List Int := cond (ordV a) (Tp.backL a) []
def baE (a : List Int) : Int := cond (ordV a) 0 1
def backP (n : Nat) (a : List Int) : List MV := [.s (baN n a) (baL a), .p (.n (baE a))]
theorem backV_eq : backV = backP := by
  funext n a
  unfold backV backP baN baL baE
  cases ordV a <;> rfl
abbrev backQ : MSpec := ctM [nK] preO [nK, iK] (fun | [.s n a] => backP n a | _ => [])
theorem fn18' : FnmS Try.prog GT 18 backQ := by have h := fn18; simp only [backC, backV_eq] at h; exact h
theorem fn19' : FnmS Try.prog GT 19 backQ := by have h := fn19; simp only [backC, backV_eq] at h; exact h
def thB (n : Nat) (a : List Int) (m : Nat) (b : List Int) : Bool := (n == m) && ordV a && ordV b
def thN (n : Nat) (a : List Int) (m : Nat) (b : List Int) : Nat := cond (thB n a m b) m 0
def thL (n : Nat) (a : List Int) (m : Nat) (b : List Int) : List Int := cond (thB n a m b) (Tp.thenL a b) []
def thE (n : Nat) (a : List Int) (m : Nat) (b : List Int) : Int := cond (thB n a m b) 0 1
def thenP (n : Nat) (a : List Int) (m : Nat) (b : List Int) : List MV := [.s (thN n a m b) (thL n a m b), .p (.n (thE n a m b))]
theorem thenV_eq : thenV = thenP := by
  funext n a m b
  unfold thenV thenP thN thL thE thB
  cases (n == m) && ordV a && ordV b <;> rfl
abbrev thenQ : MSpec := ctM [nK, nK] preN [nK, iK] (fun | [.s n a, .s m b] => thenP n a m b | _ => [])
theorem fn20' : FnmS Try.prog GT 20 thenQ := by have h := fn20; simp only [thenC, thenV_eq] at h; exact h
theorem fn21' : FnmS Try.prog GT 21 thenQ := by have h := fn21; simp only [thenC, thenV_eq] at h; exact h

noncomputable abbrev fL : List (Nat × MSpec) := [(8, upC), (9, nextQ), (10, nextQ), (11, turnQ), (12, turnQ), (13, sameC), (14, leftC), (15, leftC), (16, repC), (17, repC), (18, backQ), (19, backQ), (20, thenQ), (21, thenQ), (22, numbersC), (23, orderC), (24, orderC)]
theorem fL_ok : FnmsOk Try.prog GT fL := ⟨fn8, fn9', fn10', fn11', fn12', fn13, fn14, fn15, fn16, fn17, fn18', fn19', fn20', fn21', fn22, fn23, fn24, trivial⟩
noncomputable abbrev cxL : Cx := cxT fL
theorem cxL_ok : CxOk Try.prog GT cxL := cxT_ok fL_ok
end Go.Proofs.Ytdlhklnpnpmibaa

/- TapeTells, TapeOrders: their runs. -/
namespace Go.Proofs.Ytdlhklnpnpmibaa
open Go Go.Sx
set_option maxRecDepth 100000

abbrev big (n : Nat) (b : Bool) : Prop := decide ((n : Int) > 100) = b
abbrev sm (n m : Nat) : Prop := n ≤ 1000 ∧ m ≤ 1000
theorem run3 (n : Nat) (l : List Int) (u : Int) (m : Nat) (o : List Int) (zs : Nat → Bool) : prune (runM cxL no 100 Try.f3 (body Try.f3) [tK, nK] [.x [.s n l, .l [u]], .s m o] zs [bK] []) (false :: false :: List.replicate 20 true) =
    needs [True, big n false, big m false, le1 n, le1 n, sm n m, sm n m, sm n n, sameV n l (nxU n u) n l (nxU n u) = true, sm (tuN n m o) (tuN n m o), yes, (nxD n l u == nxD n l u) = true,
      sameV (tuN n m o) (tuD n l m o) (tuU n u m o) (tuN n m o) (tuD n l m o) (tuU n u m o) = true, (nxE n u == nxE n u) = true, (tuE n m o == tuE n m o) = true, le1 n, le1 n, (leftV n u == leftV n u) = true, le1 n, le1 n]
      (.ret [.p (.b ((!(lone n l u)) == (!(lone n l u))))]) := by kernel_rfl
theorem run3a (n : Nat) (l : List Int) (u : Int) (m : Nat) (o : List Int) (zs : Nat → Bool) : prune (runM cxL no 100 Try.f3 (body Try.f3) [tK, nK] [.x [.s n l, .l [u]], .s m o] zs [bK] []) [true] = needs [True, big n true] upK := by kernel_rfl
theorem run3b (n : Nat) (l : List Int) (u : Int) (m : Nat) (o : List Int) (zs : Nat → Bool) : prune (runM cxL no 100 Try.f3 (body Try.f3) [tK, nK] [.x [.s n l, .l [u]], .s m o] zs [bK] []) [false, true] = needs [True, big n false, big m true] upK := by kernel_rfl

theorem run4 (n : Nat) (a : List Int) (m : Nat) (b : List Int) (zs : Nat → Bool) : prune (runM cxL no 100 Try.f4 (body Try.f4) [nK, nK] [.s n a, .s m b] zs [bK] []) (false :: false :: List.replicate 20 true) =
    needs [True, big n false, big m false, le1 n, le1 n, sm n m, sm n m, sm (baN n a) (baN n a), alikeV (baN n a) (baL a) (baN n a) (baL a) = true, sm (thN n a m b) (thN n a m b), yes, le1 n, le1 n, (ordV a == ordV a) = true,
      alikeV (thN n a m b) (thL n a m b) (thN n a m b) (thL n a m b) = true, (baE a == baE a) = true]
      (.ret [.p (.b (thE n a m b == thE n a m b))]) := by kernel_rfl
theorem run4a (n : Nat) (a : List Int) (m : Nat) (b : List Int) (zs : Nat → Bool) : prune (runM cxL no 100 Try.f4 (body Try.f4) [nK, nK] [.s n a, .s m b] zs [bK] []) [true] = needs [True, big n true] upK := by kernel_rfl
theorem run4b (n : Nat) (a : List Int) (m : Nat) (b : List Int) (zs : Nat → Bool) : prune (runM cxL no 100 Try.f4 (body Try.f4) [nK, nK] [.s n a, .s m b] zs [bK] []) [false, true] = needs [True, big n false, big m true] upK := by kernel_rfl

theorem same_self (n : Nat) (a : List Int) (u : Int) : sameV n a u n a u = true := by simp [sameV]
theorem alike_self (n : Nat) (a : List Int) : alikeV n a n a = true := by simp [alikeV]
theorem baN_le {n : Nat} (a : List Int) (h : n ≤ 1000) : baN n a ≤ 1000 := by unfold baN; cases ordV a <;> simp [h]
theorem thN_le {m : Nat} (n : Nat) (a b : List Int) (h : m ≤ 1000) : thN n a m b ≤ 1000 := by unfold thN; cases thB n a m b <;> simp [h]
abbrev any : List MV → Prop := fun _ => True
/-- True, whatever comes in. -/
abbrev lawC (ks : List MK) : MSpec := ctM ks any [bK] (fun _ => [.p (.b true)])
theorem good_up {ps : List Prop} {b : Bool} (hb : b = true) (h : ∀ p ∈ ps, p) : (needs ps (.ret [.p (.b b)] : T (List MV))).good fun r => r = [.p (.b true)] := needs_good (by subst hb; rfl) h

theorem big_t {n : Nat} (h : n > 100) : big n true := decide_eq_true (by omega)
theorem big_f {n : Nat} (h : ¬ n > 100) : big n false := decide_eq_false (by omega)
theorem bb (a : Bool) : (a == a) = true := by cases a <;> rfl
theorem end_up {b : Bool} (hb : b = true) : (.ret [.p (.b b)] : T (List MV)).good fun r => r = [.p (.b true)] := by subst hb; rfl

theorem fn3 : FnmS Try.prog GT 3 (lawC [tK, nK]) :=
  fnm_run cxL_ok gmT_is Try.func3 rfl (enters_of Try.func3 (by kernel_rfl) (by kernel_rfl)) (fuel := 100) (by decide) fun xs zs hfit _ hz => by
    obtain ⟨n, l, u, m, o, rfl, hl, ho⟩ := fit_xs hfit
    refine ⟨no, noBl, ?_⟩
    by_cases hn : n > 100
    · exact Gd.of_run (run3a n l u m o zs) ⟨trivial, big_t hn, end_up rfl⟩
    · by_cases hm : m > 100
      · exact Gd.of_run (run3b n l u m o zs) ⟨trivial, big_f hn, big_t hm, end_up rfl⟩
      · have ht : tuN n m o ≤ 1000 := by rw [tuN_eq]; omega
        have h1 : n ≤ 1000 := by omega
        have h2 : m ≤ 1000 := by omega
        exact Gd.of_run (run3 n l u m o zs) ⟨trivial, big_f hn, big_f hm, h1, h1, ⟨h1, h2⟩, ⟨h1, h2⟩, ⟨h1, h1⟩, same_self _ _ _, ⟨ht, ht⟩, rfl, beq_self_eq_true _, same_self _ _ _, beq_self_eq_true _, beq_self_eq_true _, h1, h1, beq_self_eq_true _, h1, h1, end_up (bb _)⟩

theorem fit_ss' {xs : List MV} (h : fitM [nK, nK] xs) : ∃ n a m b, xs = [.s n a, .s m b] ∧ a.length = n ∧ b.length = m := by
  obtain ⟨n, a, m, b, e, h1, h2⟩ := fit_ss h
  exact ⟨n, a, m, b, e, by omega, by omega⟩
theorem fn4 : FnmS Try.prog GT 4 (lawC [nK, nK]) :=
  fnm_run cxL_ok gmT_is Try.func4 rfl (enters_of Try.func4 (by kernel_rfl) (by kernel_rfl)) (fuel := 100) (by decide) fun xs zs hfit _ hz => by
    obtain ⟨n, a, m, b, rfl, ha, hb⟩ := fit_ss' hfit
    refine ⟨no, noBl, ?_⟩
    by_cases hn : n > 100
    · exact Gd.of_run (run4a n a m b zs) ⟨trivial, big_t hn, end_up rfl⟩
    · by_cases hm : m > 100
      · exact Gd.of_run (run4b n a m b zs) ⟨trivial, big_f hn, big_t hm, end_up rfl⟩
      · have h1 : n ≤ 1000 := by omega
        have h2 : m ≤ 1000 := by omega
        have h3 : baN n a ≤ 1000 := baN_le a h1
        have h4 : thN n a m b ≤ 1000 := thN_le n a b h2
        exact Gd.of_run (run4 n a m b zs) ⟨trivial, big_f hn, big_f hm, h1, h1, ⟨h1, h2⟩, ⟨h1, h2⟩, ⟨h3, h3⟩, alike_self _ _, ⟨h4, h4⟩, rfl, h1, h1, bb _, alike_self _ _, beq_self_eq_true _, end_up (beq_self_eq_true _)⟩
end Go.Proofs.Ytdlhklnpnpmibaa

/- TapeBack. -/
namespace Go.Proofs.Ytdlhklnpnpmibaa
open Go Go.Sx
set_option maxRecDepth 100000

theorem tuE_ne {n m : Nat} {o : List Int} : (tuE n m o != 0) = !(tuB n m o) := by unfold tuE; cases tuB n m o <;> rfl
theorem tuE_eq {n m : Nat} {o : List Int} : (tuE n m o == 0) = tuB n m o := by unfold tuE; cases tuB n m o <;> rfl
theorem thE_ne {n m : Nat} {a b : List Int} : (thE n a m b != 0) = !(thB n a m b) := by unfold thE; cases thB n a m b <;> rfl
theorem thE_eq {n m : Nat} {a b : List Int} : (thE n a m b == 0) = thB n a m b := by unfold thE; cases thB n a m b <;> rfl
theorem baE_ne {a : List Int} : (baE a != 0) = !(ordV a) := by unfold baE; cases ordV a <;> rfl
theorem baE_eq {a : List Int} : (baE a == 0) = ordV a := by unfold baE; cases ordV a <;> rfl

section
variable (n : Nat) (l : List Int) (u : Int) (m : Nat) (a : List Int) (k : Nat) (b : List Int) (zs : Nat → Bool)
noncomputable abbrev r5 : T (List MV) := runM cxL no 100 Try.f5 (body Try.f5) [tK, nK, nK] [.x [.s n l, .l [u]], .s m a, .s k b] zs [bK] []
theorem run5a : prune (r5 n l u m a k b zs) [true] = needs [True, big n true] upK := by kernel_rfl
theorem run5b : prune (r5 n l u m a k b zs) [false, true] = needs [True, big n false, big m true] upK := by kernel_rfl
theorem run5c : prune (r5 n l u m a k b zs) [false, false, true] = needs [True, big n false, big m false, big k true] upK := by kernel_rfl
theorem run5d : prune (r5 n l u m a k b zs) [false, false, false, true, true, true] = needs [True, big n false, big m false, big k false, sm n m, le1 m, (tuE n m a != 0) = true, yes, (tuE n m a != 0) = true] upK := by kernel_rfl
abbrev xN : Nat := tuN n m a
abbrev xD : List Int := tuD n l m a
abbrev xU : Int := tuU n u m a
abbrev yN : Nat := tuN (xN n m a) (baN m a) (baL a)
abbrev yD : List Int := tuD (xN n m a) (xD n l m a) (baN m a) (baL a)
abbrev yU : Int := tuU (xN n m a) (xU n u m a) (baN m a) (baL a)
abbrev cN : Nat := thN m a k b
abbrev cL : List Int := thL m a k b
abbrev head5 : List Prop := [True, big n false, big m false, big k false, sm n m, le1 m, (tuE n m a != 0) = false, (baE a != 0) = false, sm (xN n m a) (baN m a), sm (yN n m a) n, sm m k, sm n (cN m a k b), sm (xN n m a) k]
theorem run5e : prune (r5 n l u m a k b zs) [false, false, false, false, false, true, true, true] =
    needs (head5 n m a k b ++ [(thE m a k b != 0) = true, yes, (tuE (xN n m a) (baN m a) (baL a) == 0) = true]) (.ret [.p (.b (sameV (yN n m a) (yD n l m a) (yU n u m a) n l 0))]) := by kernel_rfl
theorem run5f : prune (r5 n l u m a k b zs) [false, false, false, false, false, false, true, true, true, true, true] =
    needs (head5 n m a k b ++ [(thE m a k b != 0) = false, sm (tuN n (cN m a k b) (cL m a k b)) (tuN (xN n m a) k b), yes, (tuE (xN n m a) (baN m a) (baL a) == 0) = true, sameV (yN n m a) (yD n l m a) (yU n u m a) n l 0 = true,
      (tuE n (cN m a k b) (cL m a k b) == 0) = true, (tuE (xN n m a) k b == 0) = true])
      (.ret [.p (.b (sameV (tuN n (cN m a k b) (cL m a k b)) (tuD n l (cN m a k b) (cL m a k b)) (tuU n u (cN m a k b) (cL m a k b)) (tuN (xN n m a) k b) (tuD (xN n m a) (xD n l m a) k b) (tuU (xN n m a) (xU n u m a) k b)))]) := by kernel_rfl
end

theorem tuB_iff {n m : Nat} {o : List Int} : tuB n m o = true ↔ n = m ∧ ordV o = true := by simp [tuB]
theorem thB_iff {n m : Nat} {a b : List Int} : thB n a m b = true ↔ n = m ∧ ordV a = true ∧ ordV b = true := by simp [thB, and_assoc]
theorem tu_yes {n m : Nat} {o : List Int} (h : tuB n m o = true) (d : List Int) (u : Int) : tuN n m o = m ∧ tuD n d m o = Tp.turnL d o ∧ tuU n u m o = 0 := by
  unfold tuN tuD tuU; rw [h]; exact ⟨rfl, rfl, rfl⟩
theorem th_yes {n m : Nat} {a b : List Int} (h : thB n a m b = true) : thN n a m b = m ∧ thL n a m b = Tp.thenL a b := by
  unfold thN thL; rw [h]; exact ⟨rfl, rfl⟩
theorem ba_yes {n : Nat} {a : List Int} (h : ordV a = true) : baN n a = n ∧ baL a = Tp.backL a := by
  unfold baN baL; rw [h]; exact ⟨rfl, rfl⟩

theorem fit_xss {xs : List MV} (h : fitM [tK, nK, nK] xs) : ∃ n l u m a k b, xs = [.x [.s n l, .l [u]], .s m a, .s k b] ∧ l.length = n * 32 ∧ a.length = m ∧ b.length = k := by
  match xs, h with
  | x :: ys, h =>
    have h1 : fitM [tK] [x] := by
      cases x <;> first | exact h.elim | exact ⟨h.1, trivial⟩
    have h2 : fitM [nK, nK] ys := by
      cases x <;> first | exact h.elim | exact h.2
    obtain ⟨n, l, u, e1, l1⟩ := fit_x h1
    obtain ⟨m, a, k, b, e2, l2, l3⟩ := fit_ss' h2
    cases e1
    exact ⟨n, l, u, m, a, k, b, by rw [e2], l1, l2, l3⟩
  | [], h => exact h.elim

theorem turn_back {n : Nat} {l a : List Int} (hl : l.length = n * 32) (ha : a.length = n) (ho : ordV a = true) : Tp.turnL (Tp.turnL l a) (Tp.backL a) = l := by
  have ho := ordV_iff.1 ho
  rw [Tp.turn_then hl ho (Tp.backL_order ho) ha (by rw [Tp.backL_length]; exact ha), Tp.thenL_back ho, ha, Tp.turn_range hl]

theorem needs_app {α : Type} {Q : α → Prop} {t : T α} : ∀ {ps qs : List Prop}, (∀ p ∈ ps, p) → (needs qs t).good Q → (needs (ps ++ qs) t).good Q
  | [], _, _, h => h
  | p :: ps, qs, hp, h => ⟨hp p (by simp), needs_app (fun q hq => hp q (by simp [hq])) h⟩
theorem all_nil : ∀ p ∈ ([] : List Prop), p := fun p hp => by cases hp
theorem all_cons {q : Prop} {ps : List Prop} (h : q) (hs : ∀ p ∈ ps, p) : ∀ p ∈ q :: ps, p := fun p hp => by
  rcases List.mem_cons.1 hp with rfl | hp
  · exact h
  · exact hs p hp

theorem fn5 : FnmS Try.prog GT 5 (lawC [tK, nK, nK]) :=
  fnm_run cxL_ok gmT_is Try.func5 rfl (enters_of Try.func5 (by kernel_rfl) (by kernel_rfl)) (fuel := 100) (by decide) fun xs zs hfit _ hz => by
    obtain ⟨n, l, u, m, a, k, b, rfl, hl, ha, hb⟩ := fit_xss hfit
    refine ⟨no, noBl, ?_⟩
    by_cases hn : n > 100
    · exact Gd.of_run (run5a n l u m a k b zs) ⟨trivial, big_t hn, end_up rfl⟩
    by_cases hm : m > 100
    · exact Gd.of_run (run5b n l u m a k b zs) ⟨trivial, big_f hn, big_t hm, end_up rfl⟩
    by_cases hk : k > 100
    · exact Gd.of_run (run5c n l u m a k b zs) ⟨trivial, big_f hn, big_f hm, big_t hk, end_up rfl⟩
    have h1 : n ≤ 1000 := by omega
    have h2 : m ≤ 1000 := by omega
    have h3 : k ≤ 1000 := by omega
    cases hq : tuB n m a with
    | false =>
      have he : (tuE n m a != 0) = true := by rw [tuE_ne, hq]; rfl
      exact Gd.of_run (run5d n l u m a k b zs) ⟨trivial, big_f hn, big_f hm, big_f hk, ⟨h1, h2⟩, h2, he, rfl, he, end_up rfl⟩
    | true =>
      obtain ⟨hnm, hoa⟩ := tuB_iff.1 hq
      subst hnm
      obtain ⟨e1, e2, e3⟩ := tu_yes hq l u
      obtain ⟨e4, e5⟩ := ba_yes (n := n) hoa
      have hob : ordV (Tp.backL a) = true := ordV_iff.2 (Tp.backL_order (ordV_iff.1 hoa))
      have hq2 : tuB n n (Tp.backL a) = true := tuB_iff.2 ⟨rfl, hob⟩
      obtain ⟨e6, e7, e8⟩ := tu_yes hq2 (Tp.turnL l a) 0
      have hx : xN n n a = n := e1
      have hy : yN n n a = n := by unfold yN; rw [hx, e4, e5, e6]
      have hyD : yD n l n a = l := by unfold yD xD; rw [hx, e4, e5, e2, e7]; exact turn_back hl ha hoa
      have hyU : yU n u n a = 0 := by unfold yU xU; rw [hx, e4, e5, e3, e8]
      have hE : (tuE n n a != 0) = false := by rw [tuE_ne, hq]; rfl
      have hF : (baE a != 0) = false := by rw [baE_ne, hoa]; rfl
      have hG : (tuE (xN n n a) (baN n a) (baL a) == 0) = true := by rw [tuE_eq, hx, e4, e5]; exact hq2
      have hS : sameV (yN n n a) (yD n l n a) (yU n u n a) n l 0 = true := by rw [hy, hyD, hyU]; exact same_self _ _ _
      have hc : cN n a k b ≤ 1000 := thN_le n a b h3
      have hhead : ∀ p ∈ head5 n n a k b, p := by
        unfold head5
        refine all_cons trivial (all_cons (big_f hn) (all_cons (big_f hm) (all_cons (big_f hk) (all_cons ⟨h1, h2⟩ (all_cons h2 (all_cons hE (all_cons hF (all_cons ⟨?_, ?_⟩ (all_cons ⟨?_, h1⟩ (all_cons ⟨h2, h3⟩ (all_cons ⟨h1, hc⟩ (all_cons ⟨?_, h3⟩ all_nil))))))))))))
        · rw [hx]; exact h1
        · rw [e4]; exact h1
        · rw [hy]; exact h1
        · rw [hx]; exact h1
      cases hqt : thB n a k b with
      | false =>
        have hH : (thE n a k b != 0) = true := by rw [thE_ne, hqt]; rfl
        exact Gd.of_run (run5e n l u n a k b zs) ⟨needs_app hhead ⟨hH, rfl, hG, end_up hS⟩⟩
      | true =>
        obtain ⟨hnk, -, hobb⟩ := thB_iff.1 hqt
        subst hnk
        obtain ⟨c1, c2⟩ := th_yes hqt
        have hoc : ordV (Tp.thenL a b) = true := ordV_iff.2 (Tp.thenL_order (ordV_iff.1 hoa) (ordV_iff.1 hobb) (by omega))
        have hq3 : tuB n n (Tp.thenL a b) = true := tuB_iff.2 ⟨rfl, hoc⟩
        obtain ⟨z1, z2, z3⟩ := tu_yes hq3 l u
        have hq4 : tuB n n b = true := tuB_iff.2 ⟨rfl, hobb⟩
        obtain ⟨w1, w2, w3⟩ := tu_yes hq4 (Tp.turnL l a) 0
        have hH : (thE n a n b != 0) = false := by rw [thE_ne, hqt]; rfl
        have hcN : cN n a n b = n := c1
        have hcL : cL n a n b = Tp.thenL a b := c2
        have hI : (tuE n (cN n a n b) (cL n a n b) == 0) = true := by rw [hcN, hcL, tuE_eq]; exact hq3
        have hJ : (tuE (xN n n a) n b == 0) = true := by rw [hx, tuE_eq]; exact hq4
        refine Gd.of_run (run5f n l u n a n b zs) ⟨needs_app hhead ⟨hH, ⟨?_, ?_⟩, rfl, hG, hS, hI, hJ, end_up ?_⟩⟩
        · rw [hcN, hcL, z1]; exact h1
        · rw [hx, w1]; exact h1
        · rw [hcN, hcL, z1, z2, z3, hx, w1]
          have : xD n l n a = Tp.turnL l a := e2
          rw [this, w2]
          have : xU n u n a = 0 := e3
          rw [this, w3, Tp.turn_then hl (ordV_iff.1 hoa) (ordV_iff.1 hobb) ha hb]
          exact same_self _ _ _
end Go.Proofs.Ytdlhklnpnpmibaa

/- TapeThen. -/
namespace Go.Proofs.Ytdlhklnpnpmibaa
open Go Go.Sx
set_option maxRecDepth 100000

noncomputable def lp7 : Code := unloop (Code.blk (body Try.f7) 0)
theorem blks7 : blksL (body Try.f7) 0 = [.loop lp7] := by kernel_rfl
/-- What is kept at the loop's head: numbers and slices. -/
structure K7 where
  n : Nat
  a : List Int
  pn : Nat
  pl : List Int
  qn : Nat
  ql : List Int
  nn : Nat
  nl : List Int
  g : Int
  h : Int
  i : Int
  j : Int
def mem7 (s : K7) : Mem := [(0, .vec false 3 .i64 1 s.n s.a), (43, .vec true 3 .i64 1 s.pn s.pl), (51, .vec true 3 .i64 1 s.qn s.ql), (66, .vec true 3 .i64 1 s.nn s.nl)]
def kk7 : List Kp := [.keep] ++ List.replicate 5 .junk ++ [.junk, .keep] ++ List.replicate 4 .junk ++ [.keep, .keep, .keep, .keep, .junk, .keep, .keep, .keep]
def ks7 : Fh := ⟨[], kk7 ++ [.soft] ++ List.replicate 114 .junk, [0, 43, 51, 66], 73⟩
def js7 : Fh := ⟨[], kk7 ++ List.replicate 115 .junk, [0, 43, 51, 66], 73⟩
def rs7 : Fh := ⟨[], List.replicate 135 .junk, [], 73⟩
def sl7 (s : K7) : List SV := [.sl 0] ++ junks 1 6 ++ [.bool true] ++ junks 8 4 ++ [.sl 43, .int .i64 s.g, .sl 51, .int .i64 s.h, .junk 16, .int .i64 s.i, .sl 66, .int .i64 s.j]
def inv7 (s : K7) (k : Int) : St := ⟨sl7 s ++ [.int .i64 k] ++ junks 21 114, mem7 s, 73⟩
def out7 (s : K7) : St := ⟨sl7 s ++ junks 20 115, mem7 s, 73⟩
def ret7 : St := ⟨junks 0 135, [], 73⟩
theorem round7 (s : K7) (k : Int) : endV ks7 js7 rs7 (exec cxL (drawS cxL) no 100 lp7 (inv7 s k)) =
    .ite (decide (k < (s.nn : Int))) (.need (0 ≤ k ∧ k < (s.nn : Int)) (.need (k.toNat + 1 ≤ s.nn) (.ite (s.nl.getD k.toNat 0 != k) (.ret (.ret, ret7)) (.ret (.normal, inv7 s (IntKind.i64.wrap (k + 1)))))))
    (.ret (.exit 0, out7 s)) := by kernel_rfl
noncomputable def bl7 (s : K7) : Blocks := blOne 0 (loopV ks7 (inv7 s 0) true (.normal, out7 s) (.normal, out7 s))

section
variable (n : Nat) (a : List Int) (m : Nat) (b : List Int) (k : Nat) (c : List Int) (zs : Nat → Bool)
noncomputable abbrev r7 (bl : Blocks) : T (List MV) := runM cxL bl 100 Try.f7 (body Try.f7) [nK, nK, nK] [.s n a, .s m b, .s k c] zs [bK] []
abbrev upA (n m k : Nat) : List Prop := [True, big n false, big m false, big k false]
theorem run7a : prune (r7 n a m b k c zs (blNone 0)) [true] = needs [True, big n true] upK := by kernel_rfl
theorem run7b : prune (r7 n a m b k c zs (blNone 0)) [false, true] = needs [True, big n false, big m true] upK := by kernel_rfl
theorem run7c : prune (r7 n a m b k c zs (blNone 0)) [false, false, true] = needs [True, big n false, big m false, big k true] upK := by kernel_rfl
theorem run7d : prune (r7 n a m b k c zs (blNone 0)) [false, false, false, true, true, false, true, false] = needs (upA n m k ++ [sm n m, sm m k, (thE n a m b != 0) = true, yes, (thE n a m b == 0) = false, (thE n a m b == 1) = true, (thE m b k c == 0) = false]) (.ret [.p (.b (thE m b k c == 1))]) := by kernel_rfl
theorem run7e : prune (r7 n a m b k c zs (blNone 0)) [false, false, false, true, true, false, true, true] = needs (upA n m k ++ [sm n m, sm m k, (thE n a m b != 0) = true, yes, (thE n a m b == 0) = false, (thE n a m b == 1) = true, (thE m b k c == 0) = true]) upK := by kernel_rfl
theorem run7f : prune (r7 n a m b k c zs (blNone 0)) [false, false, false, false, true, true, true, false] = needs (upA n m k ++ [sm n m, sm m k, (thE n a m b != 0) = false, (thE m b k c != 0) = true, yes, (thE n a m b == 0) = true, (thE m b k c == 0) = false]) (.ret [.p (.b (thE m b k c == 1))]) := by kernel_rfl
abbrev x7N : Nat := thN n a m b
abbrev x7L : List Int := thL n a m b
def k7 : K7 := ⟨n, a, thN (x7N n a m b) (x7L n a m b) k c, thL (x7N n a m b) (x7L n a m b) k c, thN n a (x7N m b k c) (x7L m b k c), thL n a (x7N m b k c) (x7L m b k c), thN n a (baN n a) (baL a), thL n a (baN n a) (baL a),
  thE (x7N n a m b) (x7L n a m b) k c, thE n a (x7N m b k c) (x7L m b k c), baE a, thE n a (baN n a) (baL a)⟩
theorem run7g : prune (r7 n a m b k c zs (bl7 (k7 n a m b k c))) [false, false, false, false, false, true, true, true, true, true, true, true] =
    needs (upA n m k ++ [sm n m, sm m k, (thE n a m b != 0) = false, (thE m b k c != 0) = false, sm (x7N n a m b) k, sm n (x7N m b k c), le1 n, sm n (baN n a), inv7 (k7 n a m b k c) 0 = inv7 (k7 n a m b k c) 0, yes, yes,
      ((k7 n a m b k c).g == 0) = true, ((k7 n a m b k c).h == 0) = true, sm (k7 n a m b k c).pn (k7 n a m b k c).qn, alikeV (k7 n a m b k c).pn (k7 n a m b k c).pl (k7 n a m b k c).qn (k7 n a m b k c).ql = true, ((k7 n a m b k c).i == 0) = true, ((k7 n a m b k c).j == 0) = true])
      (.ret [.p (.b (((k7 n a m b k c).nn : Int) == (n : Int)))]) := by kernel_rfl
end

theorem fit_sss {xs : List MV} (h : fitM [nK, nK, nK] xs) : ∃ n a m b k c, xs = [.s n a, .s m b, .s k c] ∧ a.length = n ∧ b.length = m ∧ c.length = k := by
  match xs, h with
  | x :: ys, h =>
    have h1 : fitM [nK] [x] := by
      cases x <;> first | exact h.elim | exact ⟨h.1, trivial⟩
    have h2 : fitM [nK, nK] ys := by
      cases x <;> first | exact h.elim | exact h.2
    obtain ⟨n, a, e1, l1⟩ := fit_s h1
    obtain ⟨m, b, k, c, e2, l2, l3⟩ := fit_ss' h2
    cases e1
    exact ⟨n, a, m, b, k, c, by rw [e2], by omega, l2, l3⟩
  | [], h => exact h.elim

theorem bl7_in {Γ : Gam} (hcx : CxOk Try.prog Γ.G cxL) (h0 : Γ.G Γ.w0) (hg : GlobOk Γ) (hn : Γ.n0 = 0) {s : K7} (hp : s.nn ≤ 1000) (hl : ∀ i : Nat, i < s.nn → s.nl.getD i 0 = i) : BlocksIn Try.prog Γ (bl7 s) (body Try.f7) := by
  refine blOne_in blks7 (loop_ruleV hcx hg h0 hn (drawS_sound hcx hg h0) (bl := no) (blocksIn_none _) (fun i : Nat => inv7 s i) (fun i => s.nn - i) (fun i => i ≤ s.nn) true _ _ 100 ks7 js7 rs7 (fun i hi => ?_) 0 (Nat.zero_le _))
  rw [round7]
  refine ⟨fun h => ?_, fun h => ?_⟩
  · have h := of_decide_eq_true h
    refine ⟨by omega, by omega, fun hne => ?_, fun _ => ⟨i + 1, by omega, ?_, by omega⟩⟩
    · have he := hl i (by omega)
      have hne : s.nl.getD i 0 ≠ i := by simpa using hne
      exact absurd he hne
    · rw [wrap_i64 (by omega) (by omega)]; rfl
  · rfl

theorem range_get {n i : Nat} (h : i < n) : ((List.range n).map fun (i : Nat) => (i : Int)).getD i 0 = i := by simp [List.getD, h]

theorem fn7 : FnmS Try.prog GT 7 (lawC [nK, nK, nK]) :=
  fnm_run cxL_ok gmT_is Try.func7 rfl (enters_of Try.func7 (by kernel_rfl) (by kernel_rfl)) (fuel := 100) (by decide) fun xs zs hfit _ hz => by
    obtain ⟨n, a, m, b, k, c, rfl, ha, hb, hc⟩ := fit_sss hfit
    have hno : ∀ Γ : Gam, Γ.G = GT → Γ.G Γ.w0 → GlobOk Γ → Γ.n0 = 0 → BlocksIn Try.prog Γ (blNone 0) (body Try.f7) := fun Γ _ _ _ _ => blNone_in blks7
    by_cases hn : n > 100
    · exact ⟨_, hno, Gd.of_run (run7a n a m b k c zs) ⟨trivial, big_t hn, end_up rfl⟩⟩
    by_cases hm : m > 100
    · exact ⟨_, hno, Gd.of_run (run7b n a m b k c zs) ⟨trivial, big_f hn, big_t hm, end_up rfl⟩⟩
    by_cases hk : k > 100
    · exact ⟨_, hno, Gd.of_run (run7c n a m b k c zs) ⟨trivial, big_f hn, big_f hm, big_t hk, end_up rfl⟩⟩
    have h1 : n ≤ 1000 := by omega
    have h2 : m ≤ 1000 := by omega
    have h3 : k ≤ 1000 := by omega
    have hup : ∀ p ∈ upA n m k, p := all_cons trivial (all_cons (big_f hn) (all_cons (big_f hm) (all_cons (big_f hk) all_nil)))
    have hone : ∀ {n a m b}, thB n a m b = false → (thE n a m b == 0) = false ∧ (thE n a m b != 0) = true ∧ (thE n a m b == 1) = true := fun {n a m b} h => by unfold thE; rw [h]; exact ⟨rfl, rfl, rfl⟩
    have hzero : ∀ {n a m b}, thB n a m b = true → (thE n a m b == 0) = true ∧ (thE n a m b != 0) = false := fun {n a m b} h => by unfold thE; rw [h]; exact ⟨rfl, rfl⟩
    cases hq1 : thB n a m b with
    | false =>
      obtain ⟨e1, e2, e3⟩ := hone hq1
      cases hq2 : thB m b k c with
      | false =>
        obtain ⟨f1, f2, f3⟩ := hone hq2
        exact ⟨_, hno, Gd.of_run (run7d n a m b k c zs) ⟨needs_app hup ⟨⟨h1, h2⟩, ⟨h2, h3⟩, e2, rfl, e1, e3, f1, end_up f3⟩⟩⟩
      | true =>
        obtain ⟨f1, f2⟩ := hzero hq2
        exact ⟨_, hno, Gd.of_run (run7e n a m b k c zs) ⟨needs_app hup ⟨⟨h1, h2⟩, ⟨h2, h3⟩, e2, rfl, e1, e3, f1, end_up rfl⟩⟩⟩
    | true =>
      obtain ⟨e1, e2⟩ := hzero hq1
      cases hq2 : thB m b k c with
      | false =>
        obtain ⟨f1, f2, f3⟩ := hone hq2
        exact ⟨_, hno, Gd.of_run (run7f n a m b k c zs) ⟨needs_app hup ⟨⟨h1, h2⟩, ⟨h2, h3⟩, e2, f2, rfl, e1, f1, end_up f3⟩⟩⟩
      | true =>
        obtain ⟨f1, f2⟩ := hzero hq2
        obtain ⟨hnm, hoa, hob⟩ := thB_iff.1 hq1
        obtain ⟨hmk, -, hoc⟩ := thB_iff.1 hq2
        subst hnm
        subst hmk
        have Oa := ordV_iff.1 hoa
        have Ob := ordV_iff.1 hob
        have Oc := ordV_iff.1 hoc
        obtain ⟨x1, x2⟩ := th_yes hq1
        obtain ⟨y1, y2⟩ := th_yes hq2
        obtain ⟨b1, b2⟩ := ba_yes (n := n) hoa
        have hqp : thB n (Tp.thenL a b) n c = true := thB_iff.2 ⟨rfl, ordV_iff.2 (Tp.thenL_order Oa Ob (by omega)), hoc⟩
        have hqq : thB n a n (Tp.thenL b c) = true := thB_iff.2 ⟨rfl, hoa, ordV_iff.2 (Tp.thenL_order Ob Oc (by omega))⟩
        have hqn : thB n a n (Tp.backL a) = true := thB_iff.2 ⟨rfl, hoa, ordV_iff.2 (Tp.backL_order Oa)⟩
        obtain ⟨p1, p2⟩ := th_yes hqp
        obtain ⟨q1, q2⟩ := th_yes hqq
        obtain ⟨n1, n2⟩ := th_yes hqn
        have hk7 : k7 n a n b n c = ⟨n, a, n, Tp.thenL (Tp.thenL a b) c, n, Tp.thenL a (Tp.thenL b c), n, Tp.thenL a (Tp.backL a), 0, 0, 0, 0⟩ := by
          unfold k7 x7N x7L
          rw [x1, x2, y1, y2, b1, b2, p1, p2, q1, q2, n1, n2]
          unfold thE baE
          rw [hqp, hqq, hqn, hoa]
          rfl
        have hassoc : Tp.thenL (Tp.thenL a b) c = Tp.thenL a (Tp.thenL b c) := Tp.thenL_assoc fun x hx => by
          have := (Tp.order_spec Oc).2 x hx
          omega
        refine ⟨bl7 (k7 n a n b n c), fun Γ hG h0 hg hn0 => bl7_in (hG ▸ cxL_ok) h0 hg hn0 (by rw [hk7]; exact h1) (fun i hi => ?_), Gd.of_run (run7g n a n b n c zs) ⟨needs_app hup ⟨⟨h1, h2⟩, ⟨h2, h3⟩, e2, f2, ⟨?_, h1⟩, ⟨h1, ?_⟩, h1, ⟨h1, ?_⟩, rfl, rfl, rfl, ?_⟩⟩⟩
        · rw [hk7] at hi ⊢
          show (Tp.thenL a (Tp.backL a)).getD i 0 = i
          rw [Tp.thenL_back Oa, ha]
          exact range_get hi
        · unfold x7N; rw [x1]; exact h1
        · unfold x7N; rw [y1]; exact h1
        · rw [b1]; exact h1
        · rw [hk7]
          refine ⟨rfl, rfl, ⟨h1, h1⟩, ?_, rfl, rfl, end_up (beq_self_eq_true _)⟩
          show alikeV n (Tp.thenL (Tp.thenL a b) c) n (Tp.thenL a (Tp.thenL b c)) = true
          rw [hassoc]
          exact alike_self _ _
end Go.Proofs.Ytdlhklnpnpmibaa

/- TapeGoes. -/
namespace Go.Proofs.Ytdlhklnpnpmibaa
open Go Go.Sx
set_option maxRecDepth 100000

noncomputable def lp6 : Code := unloop (Code.blk (body Try.f6) 0)
theorem blks6 : blksL (body Try.f6) 0 = [.loop lp6] := by kernel_rfl
def kk6 : List Kp := [.keep, .keep, .junk, .junk, .keep, .keep, .keep]
/-- The first head: the draws are those that came in. -/
def k06 : Fh := ⟨[], kk6 ++ [.soft] ++ List.replicate 85 .junk, [0, 1, 15], 18⟩
def ks6 : Fh := ⟨[⟨.cell 15 0, 16, 27, .u8, 32⟩], kk6 ++ [.soft] ++ List.replicate 85 .junk, [0, 1, 15, 16], 18⟩
def j06 : Fh := ⟨[], kk6 ++ List.replicate 86 .junk, [0, 1, 15], 18⟩
def js6 : Fh := ⟨[], kk6 ++ List.replicate 86 .junk, [0, 1, 15, 16], 18⟩
def rs6 : Fh := ⟨[], List.replicate 93 .junk, [], 18⟩
def sl6 : List SV := [.sl 0, .sl 1, .junk 2, .junk 3, .ff, .bool true, .ptr 15 0 (.lit 0)]
def m06 (n : Nat) (l : List Int) (m : Nat) (o : List Int) : Mem := [(0, .vec false 27 .u8 32 n l), (1, .vec false 3 .i64 1 m o), (15, .st true [.sl 0, .ints .i64 1 [0]])]
def m6 (n : Nat) (l : List Int) (m : Nat) (o : List Int) (i : Int) : Mem := [(0, .vec false 27 .u8 32 n l), (1, .vec false 3 .i64 1 m o), (15, .st true [.sl 16, .ints .i64 1 [i]]), (16, .vec true 27 .u8 32 n l)]
def i06 (n : Nat) (l : List Int) (m : Nat) (o : List Int) : St := ⟨sl6 ++ [.int .i64 0] ++ junks 8 85, m06 n l m o, 18⟩
def i6 (n : Nat) (l : List Int) (m : Nat) (o : List Int) (u i : Int) : St := ⟨sl6 ++ [.int .i64 i] ++ junks 8 85, m6 n l m o u, 18⟩
def o06 (n : Nat) (l : List Int) (m : Nat) (o : List Int) : St := ⟨sl6 ++ junks 7 86, m06 n l m o, 18⟩
def o6 (n : Nat) (l : List Int) (m : Nat) (o : List Int) (u : Int) : St := ⟨sl6 ++ junks 7 86, m6 n l m o u, 18⟩
def ret6 : St := ⟨junks 0 93, [], 18⟩
section
variable (n : Nat) (l : List Int) (m : Nat) (o : List Int) (u i : Int)
theorem round6 : endV ks6 js6 rs6 (exec cxL (drawS cxL) no 100 lp6 (i6 n l m o u i)) =
    .ite (decide (i < (n : Int))) (.need (n ≤ 1000) (.ite (nxE n u != 0) (.ret (.ret, ret6)) (.need (0 ≤ i ∧ i < (n : Int)) (.need (i.toNat * 32 + 32 ≤ n * 32)
      (.ite (!(nxD n l u == sub l (i.toNat * 32) 32)) (.ret (.ret, ret6)) (.need (n ≤ 1000) (.ite (leftV n (nxU n u) != IntKind.i64.wrap (IntKind.i64.wrap ((n : Int) - 1) - i)) (.ret (.ret, ret6))
        (.ret (.normal, i6 n l m o (nxU n u) (IntKind.i64.wrap (i + 1)))))))))))
    (.ret (.exit 0, o6 n l m o u)) := by kernel_rfl
theorem round06 : endV ks6 js6 rs6 (exec cxL (drawS cxL) no 100 lp6 (i06 n l m o)) =
    .ite (decide (0 < (n : Int))) (.need (n ≤ 1000) (.ite (nxE n 0 != 0) (.ret (.ret, ret6)) (.need ((0 : Int) ≤ 0 ∧ 0 < (n : Int)) (.need ((0 : Int).toNat * 32 + 32 ≤ n * 32)
      (.ite (!(nxD n l 0 == sub l ((0 : Int).toNat * 32) 32)) (.ret (.ret, ret6)) (.need (n ≤ 1000) (.ite (leftV n (nxU n 0) != IntKind.i64.wrap (IntKind.i64.wrap ((n : Int) - 1) - 0)) (.ret (.ret, ret6))
        (.ret (.normal, i6 n l m o (nxU n 0) (IntKind.i64.wrap (0 + 1)))))))))))
    (.fail "a head's blocks") := by kernel_rfl
theorem round006 : endV ks6 j06 rs6 (exec cxL (drawS cxL) no 100 lp6 (i06 n l m o)) =
    .ite (decide (0 < (n : Int))) (.need (n ≤ 1000) (.ite (nxE n 0 != 0) (.ret (.ret, ret6)) (.need ((0 : Int) ≤ 0 ∧ 0 < (n : Int)) (.need ((0 : Int).toNat * 32 + 32 ≤ n * 32)
      (.ite (!(nxD n l 0 == sub l ((0 : Int).toNat * 32) 32)) (.ret (.ret, ret6)) (.need (n ≤ 1000) (.ite (leftV n (nxU n 0) != IntKind.i64.wrap (IntKind.i64.wrap ((n : Int) - 1) - 0)) (.ret (.ret, ret6))
        (.ret (.normal, i6 n l m o (nxU n 0) (IntKind.i64.wrap (0 + 1)))))))))))
    (.ret (.exit 0, o06 n l m o)) := by kernel_rfl
variable (zs : Nat → Bool)
noncomputable abbrev r6 (bl : Blocks) : T (List MV) := runM cxL bl 100 Try.f6 (body Try.f6) [dK, nK] [.s n l, .s m o] zs [bK] []
noncomputable def bl06 : Blocks := blOne 0 (loopV k06 (i06 n l m o) true (.normal, o06 n l m o) (.normal, o06 n l m o))
noncomputable def bl6 : Blocks := blOne 0 (loopV k06 (i06 n l m o) true (.normal, o6 n l m o n) (.normal, o6 n l m o n))
theorem run6a : prune (r6 n l m o zs (blNone 0)) [true] = needs [True, big n true] upK := by kernel_rfl
theorem run6b : prune (r6 n l m o zs (blNone 0)) [false, true] = needs [True, big n false, big m true] upK := by kernel_rfl
abbrev hd6 (u : Int) : List Prop := [True, big n false, big m false, i06 n l m o = i06 n l m o, yes, le1 n, sm n m, yes, (nxE n u == 110) = true]
abbrev rep6 (u : Int) : Bool := (!(lone (tuN n m o) (tuD n l m o) (tuN n m o : Nat))) == (!(lone n l u))
theorem run6c : prune (r6 n l m o zs (bl06 n l m o)) [false, false, true, true, true, true] = needs (hd6 n l m o 0 ++ [(tuE n m o != 0) = true]) upK := by kernel_rfl
theorem run6d : prune (r6 n l m o zs (bl06 n l m o)) [false, false, true, true, true, false] = needs (hd6 n l m o 0 ++ [(tuE n m o != 0) = false, le1 (tuN n m o), le1 n]) (.ret [.p (.b (rep6 n l m o 0))]) := by kernel_rfl
theorem run6e : prune (r6 n l m o zs (bl6 n l m o)) [false, false, true, true, true, true] = needs (hd6 n l m o n ++ [(tuE n m o != 0) = true]) upK := by kernel_rfl
theorem run6f : prune (r6 n l m o zs (bl6 n l m o)) [false, false, true, true, true, false] = needs (hd6 n l m o n ++ [(tuE n m o != 0) = false, le1 (tuN n m o), le1 n]) (.ret [.p (.b (rep6 n l m o n))]) := by kernel_rfl
end
end Go.Proofs.Ytdlhklnpnpmibaa

/- TapeGoes: the contract. -/
namespace Go.Proofs.Ytdlhklnpnpmibaa
open Go Go.Sx
set_option maxRecDepth 100000

theorem nodup_iff {l : List Int} {n : Nat} : (useL l n).Nodup ↔ ∀ i j, i < n → j < n → Tp.chunk l i = Tp.chunk l j → i = j := by
  unfold List.Nodup
  rw [List.pairwise_iff_getElem]
  simp only [useL_length]
  have hget : ∀ i (h : i < (useL l n).length), (useL l n)[i] = Tp.chunk l i := fun i h => by simp [useL]
  constructor
  · intro h i j hi hj he
    rcases Nat.lt_trichotomy i j with hlt | heq | hgt
    · have := h i j hi hj hlt
      rw [hget, hget] at this
      exact absurd he this
    · exact heq
    · have := h j i hj hi hgt
      rw [hget, hget] at this
      exact absurd he.symm this
  · intro h i j hi hj hlt
    rw [hget, hget]
    intro he
    have := h i j hi hj he
    omega

theorem lone_turn {n : Nat} {l o : List Int} (hl : l.length = n * 32) (ho : o.length = n) (hq : ordV o = true) : lone n (Tp.turnL l o) n = lone n l n := by
  have O := ordV_iff.1 hq
  obtain ⟨hnd, hb⟩ := Tp.order_spec O
  have hspec := (Tp.turnL_spec hl (o := o) (fun x hx => by have := hb x hx; omega)).2
  unfold lone
  have e : min n (n : Int).toNat = n := by omega
  rw [e]
  apply decide_eq_decide.2
  rw [nodup_iff, nodup_iff]
  constructor
  · intro h i j hi hj he
    have mi := O i (by omega)
    have mj := O j (by omega)
    have li := Tp.idx_lt.2 mi
    have lj := Tp.idx_lt.2 mj
    have gi := Tp.get_idx mi
    have gj := Tp.get_idx mj
    have := h (Tp.idx i o) (Tp.idx j o) (by omega) (by omega) (by
      rw [hspec _ li, hspec _ lj, gi, gj]; simpa using he)
    rw [this, gj] at gi
    omega
  · intro h i j hi hj he
    rw [hspec _ (by omega), hspec _ (by omega)] at he
    have bi := hb _ (Tp.getD_mem (l := o) (i := i) (by omega))
    have bj := hb _ (Tp.getD_mem (l := o) (i := j) (by omega))
    have := h _ _ (by omega) (by omega) he
    exact Tp.nodup_get hnd (by omega) (by omega) (by omega)

theorem fit_ds {xs : List MV} (h : fitM [dK, nK] xs) : ∃ n l m o, xs = [.s n l, .s m o] ∧ l.length = n * 32 ∧ o.length = m := by
  match xs, h with
  | x :: ys, h =>
    have h1 : fitM [dK] [x] := by
      cases x <;> first | exact h.elim | exact ⟨h.1, trivial⟩
    have h2 : fitM [nK] ys := by
      cases x <;> first | exact h.elim | exact h.2
    obtain ⟨n, l, e1, l1⟩ := fit_s h1
    obtain ⟨m, o, e2, l2⟩ := fit_s h2
    cases e1
    exact ⟨n, l, m, o, by rw [e2], l1, by omega⟩
  | [], h => exact h.elim

theorem nx_in {n i : Nat} {l : List Int} (h : i < n) : nxE n i = 0 ∧ nxU n i = (i : Int) + 1 ∧ nxD n l i = sub l (i * 32) 32 := by
  have h1 : rightV n i = true := rightV_iff.2 (by omega)
  have h2 : ((i : Int) == (n : Int)) = false := by simp; omega
  have h3 : nxB n i = true := by unfold nxB; rw [h1, h2]; rfl
  unfold nxE nxU nxD
  rw [h1, h2, h3]
  exact ⟨rfl, rfl, rfl⟩
theorem nx_end (n : Nat) : nxE n n = 110 := by
  have h1 : rightV n n = true := rightV_iff.2 (by omega)
  unfold nxE; rw [h1]; simp

theorem step6 {n : Nat} {l : List Int} {m : Nat} {o : List Int} (hn : n ≤ 100) {i : Nat} (hi : i < n) {Q : (Ex × St) → Prop} (h : Q (.normal, i6 n l m o ((i + 1 : Nat) : Int) ((i + 1 : Nat) : Int))) :
    (T.need (n ≤ 1000) (.ite (nxE n i != 0) (.ret (.ret, ret6)) (.need (0 ≤ (i : Int) ∧ (i : Int) < (n : Int)) (.need ((i : Int).toNat * 32 + 32 ≤ n * 32)
      (.ite (!(nxD n l i == sub l ((i : Int).toNat * 32) 32)) (.ret (.ret, ret6)) (.need (n ≤ 1000) (.ite (leftV n (nxU n i) != IntKind.i64.wrap (IntKind.i64.wrap ((n : Int) - 1) - i)) (.ret (.ret, ret6))
        (.ret (.normal, i6 n l m o (nxU n i) (IntKind.i64.wrap (i + 1)))))))))) : T (Ex × St)).good Q := by
  obtain ⟨e1, e2, e3⟩ := nx_in (l := l) hi
  have e4 : leftV n ((i : Int) + 1) = IntKind.i64.wrap (IntKind.i64.wrap ((n : Int) - 1) - i) := by
    unfold leftV
    have : rightV n ((i : Int) + 1) = true := rightV_iff.2 (by omega)
    rw [this, wrap_i64 (x := (n : Int) - 1) (by omega) (by omega), wrap_i64 (by omega) (by omega)]
    simp only [if_true]; omega
  refine ⟨by omega, fun h1 => ?_, fun _ => ⟨by omega, by omega, fun h2 => ?_, fun _ => ⟨by omega, fun h3 => ?_, fun _ => ?_⟩⟩⟩
  · rw [e1] at h1; cases h1
  · rw [e3] at h2; simp at h2
  · rw [e2, e4] at h3; simp at h3
  · rw [e2, wrap_i64 (by omega) (by omega)]; exact h

def inv6 (n : Nat) (l : List Int) (m : Nat) (o : List Int) : Nat → St
  | 0 => i06 n l m o
  | i + 1 => i6 n l m o ((i + 1 : Nat) : Int) ((i + 1 : Nat) : Int)

theorem bl6_in {Γ : Gam} (hcx : CxOk Try.prog Γ.G cxL) (h0 : Γ.G Γ.w0) (hg : GlobOk Γ) (hn0 : Γ.n0 = 0) {n : Nat} {l : List Int} {m : Nat} {o : List Int} (hn : n ≤ 100) (hpos : 0 < n) : BlocksIn Try.prog Γ (bl6 n l m o) (body Try.f6) := by
  refine blOne_in blks6 (loop_ruleW hcx hg h0 hn0 (drawS_sound hcx hg h0) (bl := no) (blocksIn_none _) (inv6 n l m o) (fun i => n - i) (fun i => i ≤ n) true (.normal, o6 n l m o n) (.normal, o6 n l m o n) 100 k06 ks6 js6 rs6 (fun i hi => ?_) 0 (Nat.zero_le _))
  cases i with
  | zero =>
    show (endV ks6 js6 rs6 (exec cxL (drawS cxL) no 100 lp6 (i06 n l m o))).good _
    rw [round06]
    refine ⟨fun _ => ?_, fun h => ?_⟩
    · exact step6 (i := 0) hn hpos ⟨1, by omega, rfl, by omega⟩
    · have h := of_decide_eq_false h; omega
  | succ i =>
    show (endV ks6 js6 rs6 (exec cxL (drawS cxL) no 100 lp6 (i6 n l m o ((i + 1 : Nat) : Int) ((i + 1 : Nat) : Int)))).good _
    rw [round6]
    refine ⟨fun h => ?_, fun h => ?_⟩
    · have h := of_decide_eq_true h
      exact step6 (i := i + 1) hn (by omega) ⟨i + 2, by omega, rfl, by omega⟩
    · have h := of_decide_eq_false h
      have : i + 1 = n := by omega
      rw [this]; rfl

theorem bl06_in {Γ : Gam} (hcx : CxOk Try.prog Γ.G cxL) (h0 : Γ.G Γ.w0) (hg : GlobOk Γ) (hn0 : Γ.n0 = 0) {l : List Int} {m : Nat} {o : List Int} : BlocksIn Try.prog Γ (bl06 0 l m o) (body Try.f6) := by
  refine blOne_in blks6 (loop_ruleW hcx hg h0 hn0 (drawS_sound hcx hg h0) (bl := no) (blocksIn_none _) (fun _ : Nat => i06 0 l m o) (fun i => i) (fun _ => True) true (.normal, o06 0 l m o) (.normal, o06 0 l m o) 100 k06 ks6 j06 rs6 (fun i hi => ?_) 0 trivial)
  rw [round006]
  refine ⟨fun h => ?_, fun h => rfl⟩
  have h := of_decide_eq_true h; omega

theorem fn6 : FnmS Try.prog GT 6 (lawC [dK, nK]) :=
  fnm_run cxL_ok gmT_is Try.func6 rfl (enters_of Try.func6 (by kernel_rfl) (by kernel_rfl)) (fuel := 100) (by decide) fun xs zs hfit _ hz => by
    obtain ⟨n, l, m, o, rfl, hl, ho⟩ := fit_ds hfit
    have hno : ∀ Γ : Gam, Γ.G = GT → Γ.G Γ.w0 → GlobOk Γ → Γ.n0 = 0 → BlocksIn Try.prog Γ (blNone 0) (body Try.f6) := fun Γ _ _ _ _ => blNone_in blks6
    by_cases hn : n > 100
    · exact ⟨_, hno, Gd.of_run (run6a n l m o zs) ⟨trivial, big_t hn, end_up rfl⟩⟩
    by_cases hm : m > 100
    · exact ⟨_, hno, Gd.of_run (run6b n l m o zs) ⟨trivial, big_f hn, big_t hm, end_up rfl⟩⟩
    have h1 : n ≤ 1000 := by omega
    have h2 : m ≤ 1000 := by omega
    have hhd : ∀ p ∈ hd6 n l m o n, p := all_cons trivial (all_cons (big_f hn) (all_cons (big_f hm) (all_cons rfl (all_cons rfl (all_cons h1 (all_cons ⟨h1, h2⟩ (all_cons rfl (all_cons (by rw [nx_end]; rfl) all_nil))))))))
    have ht : le1 (tuN n m o) := by show tuN n m o ≤ 1000; rw [tuN_eq]; exact h1
    have hrep : tuB n m o = true → rep6 n l m o n = true := fun hq => by
      obtain ⟨hnm, hoo⟩ := tuB_iff.1 hq
      subst hnm
      obtain ⟨e1, e2, e3⟩ := tu_yes hq l 0
      unfold rep6
      rw [e1, e2, lone_turn hl ho hoo]
      exact bb _
    rcases Nat.eq_zero_or_pos n with h0 | hpos
    · subst h0
      refine ⟨bl06 0 l m o, fun Γ hG hG0 hg hn0 => bl06_in (hG ▸ cxL_ok) hG0 hg hn0, ?_⟩
      cases hq : tuB 0 m o with
      | false => exact Gd.of_run (run6c 0 l m o zs) ⟨needs_app hhd ⟨by rw [tuE_ne, hq]; rfl, end_up rfl⟩⟩
      | true => exact Gd.of_run (run6d 0 l m o zs) ⟨needs_app hhd ⟨by rw [tuE_ne, hq]; rfl, ht, h1, end_up (hrep hq)⟩⟩
    · refine ⟨bl6 n l m o, fun Γ hG hG0 hg hn0 => bl6_in (hG ▸ cxL_ok) hG0 hg hn0 (by omega) hpos, ?_⟩
      cases hq : tuB n m o with
      | false => exact Gd.of_run (run6e n l m o zs) ⟨needs_app hhd ⟨by rw [tuE_ne, hq]; rfl, end_up rfl⟩⟩
      | true => exact Gd.of_run (run6f n l m o zs) ⟨needs_app hhd ⟨by rw [tuE_ne, hq]; rfl, ht, h1, end_up (hrep hq)⟩⟩
end Go.Proofs.Ytdlhklnpnpmibaa

/- What all rows of this seat ask of the translation. -/
namespace Go.Proofs.Ytdlhklnpnpmibaa
open Go Go.Sx
open Go.ChangeShapes Go.WideShapes Go.ChangeAt Go.RowKit
theorem own : ownKnob Try.prog.godebug = none := by kernel_rfl
theorem laidOut : laidOutB Try.prog = true := by kernel_rfl
end Go.Proofs.Ytdlhklnpnpmibaa
