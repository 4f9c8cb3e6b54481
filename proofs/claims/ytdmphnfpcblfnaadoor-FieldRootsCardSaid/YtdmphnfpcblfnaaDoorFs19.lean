import Derived.Test.YtdmphnfpcblfnaaDoorFs18
import Derived.Test.YtdmphnfpcblfnaaDoorFs17
/- The document's answer for the field: the product is the product. -/
namespace Go.Proofs.YtdmphnfpcblfnaaDoor
open Go Go.Sx
set_option maxRecDepth 100000

def dv : List Int → Int
  | [] => 0
  | x :: l => x + 65536 * dv l
def Bd (B : Int) (l : List Int) : Prop := ∀ x ∈ l, 0 ≤ x ∧ x ≤ B

theorem dv_set : ∀ (l : List Int) (j : Nat) (v : Int), j < l.length → dv (l.set j v) = dv l + 65536 ^ j * (v - l.getD j 0)
  | [], j, v, h => by simp at h
  | x :: l, 0, v, _ => by simp [dv]; omega
  | x :: l, j + 1, v, h => by
    have ih := dv_set l j v (by simpa using h)
    simp only [List.set_cons_succ, dv, ih, List.getD_cons_succ, Int.pow_succ]
    generalize v - l.getD j 0 = w
    rw [Int.mul_add, Int.mul_comm (65536 ^ j) 65536, Int.mul_assoc]
    omega

theorem dv_take_succ : ∀ (l : List Int) (k : Nat), k < l.length → dv (l.take (k + 1)) = dv (l.take k) + 65536 ^ k * l.getD k 0
  | [], k, h => by simp at h
  | x :: l, 0, _ => by simp [dv]
  | x :: l, k + 1, h => by
    have ih := dv_take_succ l k (by simpa using h)
    simp only [List.take_succ_cons, dv, List.getD_cons_succ, Int.pow_succ]
    rw [ih, Int.mul_add, Int.mul_comm (65536 ^ k) 65536, Int.mul_assoc]
    omega

theorem Bd.getD {B : Int} {l : List Int} (h : Bd B l) (hB : 0 ≤ B) (j : Nat) : 0 ≤ l.getD j 0 ∧ l.getD j 0 ≤ B := by
  rw [List.getD_eq_getElem?_getD]
  cases e : l[j]? with
  | none => simp; exact hB
  | some x => exact h x (List.mem_of_getElem? e)
theorem Bd.set {B C : Int} {l : List Int} (h : Bd B l) (j : Nat) {v : Int} (hBC : B ≤ C) (hv : 0 ≤ v ∧ v ≤ C) : Bd C (l.set j v) := fun x hx => by
  rcases List.mem_or_eq_of_mem_set hx with hx | rfl
  · have := h x hx; omega
  · exact hv
theorem Bd.mono {B C : Int} {l : List Int} (h : Bd B l) (hBC : B ≤ C) : Bd C l := fun x hx => by have := h x hx; omega

theorem put32 (l : List Int) (j : Nat) (v : Int) : putL l j 32 1 [v] = l.set j v := rfl
theorem put16 (l : List Int) (j : Nat) (v : Int) : putL l j 16 1 [v] = l.set j v := rfl
theorem put4 (l : List Int) (j : Nat) (v : Int) : putL l j 4 1 [v] = l.set j v := rfl

theorem prod16 {x y : Int} (hx : 0 ≤ x ∧ x ≤ 65535) (hy : 0 ≤ y ∧ y ≤ 65535) : 0 ≤ x * y ∧ x * y ≤ 4294836225 := by
  have h0 : 0 ≤ x * y := Int.mul_nonneg hx.1 hy.1
  have h1 : x * y ≤ 65535 * 65535 := Int.mul_le_mul hx.2 hy.2 hy.1 (by omega)
  omega

theorem mstep_spec {B x y : Int} {j : Nat} {l : List Int} (hl : l.length = 32) (hj : j < 32) (hb : Bd B l) (hB0 : 0 ≤ B) (hB : B ≤ 4611686018427387904) (hx : 0 ≤ x ∧ x ≤ 65535) (hy : 0 ≤ y ∧ y ≤ 65535) :
    (mstep x y j l).length = 32 ∧ Bd (B + 4294836225) (mstep x y j l) ∧ dv (mstep x y j l) = dv l + 65536 ^ j * (x * y) := by
  have hp := prod16 hx hy
  have hg := hb.getD hB0 j
  unfold mstep
  rw [put32]
  simp only [wrap_u64]
  rw [Int.emod_eq_of_lt (a := x * y) hp.1 (by omega), Int.emod_eq_of_lt (by omega) (by omega)]
  refine ⟨by rw [List.length_set]; exact hl, hb.set j (by omega) (by omega), ?_⟩
  rw [dv_set _ _ _ (by omega)]
  congr 2
  omega

theorem mrow_spec {B x : Int} {y l : List Int} {i : Nat} (hl : l.length = 32) (hi : i < 16) (hb : Bd B l) (hB0 : 0 ≤ B) (hB : B ≤ 2305843009213693952) (hx : 0 ≤ x ∧ x ≤ 65535) (hy : Bd 65535 y) (hyl : y.length = 16) : ∀ k : Nat, k ≤ 16 →
    (mrow x y i k l).length = 32 ∧ Bd (B + k * 4294836225) (mrow x y i k l) ∧ dv (mrow x y i k l) = dv l + 65536 ^ i * (x * dv (y.take k))
  | 0, _ => by simp only [mrow]; exact ⟨hl, by simpa using hb, by simp [dv]⟩
  | k + 1, hk => by
    obtain ⟨h1, h2, h3⟩ := mrow_spec hl hi hb hB0 hB hx hy hyl k (by omega)
    obtain ⟨g1, g2, g3⟩ := mstep_spec (j := i + k) h1 (by omega) h2 (by omega) (by omega) hx (hy.getD (by omega) k)
    refine ⟨g1, g2.mono (by omega), ?_⟩
    simp only [mrow]
    rw [g3, h3, dv_take_succ y k (by omega), Int.pow_add]
    grind

theorem mall_spec {x y : List Int} (hx : Bd 65535 x) (hy : Bd 65535 y) (hyl : y.length = 16) (hxl : x.length = 16) : ∀ i : Nat, i ≤ 16 →
    (mall x y i).length = 32 ∧ Bd (i * 68717379600) (mall x y i) ∧ dv (mall x y i) = dv (x.take i) * dv y
  | 0, _ => by
    refine ⟨by simp [mall], fun z hz => ?_, by simp [mall, dv]⟩
    simp only [mall, List.mem_replicate] at hz
    omega
  | i + 1, hi => by
    obtain ⟨h1, h2, h3⟩ := mall_spec hx hy hyl hxl i (by omega)
    obtain ⟨g1, g2, g3⟩ := mrow_spec (i := i) h1 (by omega) h2 (by omega) (by omega) (hx.getD (by omega) i) hy hyl 16 (Nat.le_refl _)
    refine ⟨g1, g2.mono (by omega), ?_⟩
    simp only [mall]
    rw [g3, h3, dv_take_succ x i (by omega), show y.take 16 = y from List.take_of_length_le (by omega)]
    grind

theorem mlow_spec {all : List Int} (hb : Bd 1099478073600 all) (hl : all.length = 32) : ∀ i : Nat, i ≤ 16 →
    (mlow all i).length = 16 ∧ Bd 42879644870400 (mlow all i) ∧ dv (mlow all i) = dv (all.take i) + 38 * dv ((all.drop 16).take i) ∧ ∀ j, i ≤ j → (mlow all i).getD j 0 = 0
  | 0, _ => by
    refine ⟨by simp [mlow], fun z hz => ?_, by simp [mlow, dv], fun j _ => ?_⟩
    · simp only [mlow, List.mem_replicate] at hz; omega
    · simp only [mlow, List.getD_eq_getElem?_getD, List.getElem?_replicate]; split <;> rfl
  | i + 1, hi => by
    obtain ⟨h1, h2, h3, h4⟩ := mlow_spec hb hl i (by omega)
    have a1 := hb.getD (by omega) i
    have a2 := hb.getD (by omega) (i + 16)
    simp only [mlow]
    rw [put16]
    simp only [wrap_u64]
    rw [Int.emod_eq_of_lt (a := 38 * all.getD (i + 16) 0) (by omega) (by omega), Int.emod_eq_of_lt (by omega) (by omega)]
    refine ⟨by rw [List.length_set]; exact h1, h2.set i (Int.le_refl _) (by omega), ?_, fun j hj => ?_⟩
    · rw [dv_set _ _ _ (by omega), h3, h4 i (Nat.le_refl _), dv_take_succ all i (by omega), dv_take_succ (all.drop 16) i (by rw [List.length_drop]; omega)]
      have e : (all.drop 16).getD i 0 = all.getD (i + 16) 0 := by
        rw [List.getD_eq_getElem?_getD, List.getD_eq_getElem?_getD, List.getElem?_drop, Nat.add_comm]
      rw [e]
      grind
    · rw [List.getD_eq_getElem?_getD, List.getElem?_set_ne (by omega), ← List.getD_eq_getElem?_getD]
      exact h4 j (by omega)

theorem dv_split : ∀ (l : List Int) (k : Nat), dv l = dv (l.take k) + 65536 ^ k * dv (l.drop k)
  | [], k => by simp [dv]
  | x :: l, 0 => by simp [dv]
  | x :: l, k + 1 => by
    have ih := dv_split l k
    simp only [List.take_succ_cons, List.drop_succ_cons, dv, Int.pow_succ]
    conv => lhs; rw [ih]
    rw [Int.mul_add, Int.mul_comm (65536 ^ k) 65536, Int.mul_assoc]
    omega

theorem dv_range {l : List Int} (h : Bd 65535 l) : 0 ≤ dv l ∧ dv l < 65536 ^ l.length := by
  induction l with
  | nil => simp [dv]
  | cons x l ih =>
    have h1 := h x (by simp)
    have h2 := ih (fun y hy => h y (by simp [hy]))
    simp only [dv, List.length_cons, Int.pow_succ]
    omega

theorem pass_spec {B : Int} {l : List Int} (hb : Bd B l) (hl : l.length = 16) (hB0 : 65535 ≤ B) (hB : B ≤ 4611686018427387904) : ∀ k : Nat, k ≤ 16 →
    (pass l k).1.length = 16 ∧ (0 ≤ (pass l k).2 ∧ (pass l k).2 ≤ B) ∧ Bd 65535 ((pass l k).1.take k) ∧ (∀ j, k ≤ j → (pass l k).1.getD j 0 = l.getD j 0) ∧ dv (pass l k).1 + 65536 ^ k * (pass l k).2 = dv l
  | 0, _ => ⟨hl, by simp only [pass]; omega, fun x hx => by simp at hx, fun _ _ => rfl, by simp [pass]⟩
  | k + 1, hk => by
    obtain ⟨h1, h2, h3, h4, h5⟩ := pass_spec hb hl hB0 hB k (by omega)
    have hg := hb.getD (by omega) k
    simp only [pass]
    generalize pass l k = r at *
    unfold pstep
    rw [put16, h4 k (Nat.le_refl _)]
    simp only [wrap_u64]
    rw [Int.emod_eq_of_lt (a := l.getD k 0 + r.2) (by omega) (by omega), Int.tmod_eq_emod_of_nonneg (by omega), Int.tdiv_eq_ediv_of_nonneg (by omega)]
    rw [Int.emod_eq_of_lt (a := (l.getD k 0 + r.2) / 65536) (by omega) (by omega)]
    refine ⟨by rw [List.length_set]; exact h1, by omega, fun x hx => ?_, fun j hj => ?_, ?_⟩
    · obtain ⟨i, hi, rfl⟩ := List.getElem_of_mem hx
      simp only [List.length_take, List.length_set] at hi
      rw [List.getElem_take, List.getElem_set]
      split
      · omega
      · refine h3 _ ?_
        rw [List.mem_take_iff_getElem]
        exact ⟨i, by omega, rfl⟩
    · rw [List.getD_eq_getElem?_getD, List.getElem?_set_ne (by omega), ← List.getD_eq_getElem?_getD]
      exact h4 j (by omega)
    · rw [dv_set _ _ _ (by omega), h4 k (Nat.le_refl _), Int.pow_succ]
      have hs : l.getD k 0 + r.2 = (l.getD k 0 + r.2) % 65536 + 65536 * ((l.getD k 0 + r.2) / 65536) := by omega
      generalize (l.getD k 0 + r.2) % 65536 = m at *
      generalize (l.getD k 0 + r.2) / 65536 = q at *
      generalize l.getD k 0 = g at *
      rw [← h5]
      have e : r.2 = m + 65536 * q - g := by omega
      rw [e]
      grind

abbrev T256 : Int := 115792089237316195423570985008687907853269984665640564039457584007913129639936
theorem t256 : (65536 : Int) ^ 16 = T256 := by decide +kernel

theorem pass38_spec {B : Int} {l : List Int} (hb : Bd B l) (hl : l.length = 16) (hB0 : 65535 ≤ B) (hB : B ≤ 72057594037927936) :
    (pass38 l).length = 16 ∧ (0 ≤ dv l / T256 ∧ dv l / T256 ≤ B) ∧ Bd (65535 + 38 * (dv l / T256)) (pass38 l) ∧ dv (pass38 l) = dv l % T256 + 38 * (dv l / T256) := by
  obtain ⟨h1, h2, h3, -, h5⟩ := pass_spec hb hl hB0 (by omega) 16 (Nat.le_refl _)
  rw [List.take_of_length_le (by omega)] at h3
  have hr := dv_range h3
  rw [h1, t256] at hr
  rw [t256] at h5
  unfold pass38
  generalize pass l 16 = r at *
  have e1 : dv l / T256 = r.2 := by rw [← h5, Int.add_mul_ediv_left _ _ (by decide), Int.ediv_eq_zero_of_lt hr.1 hr.2]; omega
  have e2 : dv l % T256 = dv r.1 := by rw [← h5, Int.add_mul_emod_self_left, Int.emod_eq_of_lt hr.1 hr.2]
  have hg := h3.getD (by omega) 0
  rw [e1, e2, put16]
  simp only [wrap_u64]
  rw [Int.emod_eq_of_lt (a := 38 * r.2) (by omega) (by omega), Int.emod_eq_of_lt (a := r.1.getD 0 0 + 38 * r.2) (by omega) (by omega)]
  refine ⟨by rw [List.length_set]; exact h1, h2, h3.set 0 (by omega) (by omega), ?_⟩
  rw [dv_set _ _ _ (by omega), Int.pow_zero]
  omega
end Go.Proofs.YtdmphnfpcblfnaaDoor
