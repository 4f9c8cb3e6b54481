import Derived.Test.YtdmphnfpcblfnaaDoorSxO
import Derived.Test.YtdmphnfpcblfnaaDoorSxNum
import Derived.Laws.Externs
import Derived.Laws.BitsAllLaws
/- Contracts of math/bits and of the field, as functions of plain arguments. -/
namespace Go.Sx

def add64F : List AV → T SV
  | [.n x, .n y, .n c] => .need (0 ≤ x ∧ 0 ≤ y ∧ 0 ≤ c ∧ c ≤ 1) (.ret (.tup [.int .u64 ((x + y + c) % 18446744073709551616), .int .u64 ((x + y + c) / 18446744073709551616)]))
  | _ => .fail "Add64"

def sub64F : List AV → T SV
  | [.n x, .n y, .n c] => .need ((0 ≤ x ∧ x < 18446744073709551616) ∧ (0 ≤ y ∧ y < 18446744073709551616) ∧ 0 ≤ c ∧ c ≤ 1) (.ret (.tup [.int .u64 ((x - y - c) % 18446744073709551616), .int .u64 (if x < y + c then 1 else 0)]))
  | _ => .fail "Sub64"

def n3 : List AK := [.num .u64, .num .u64, .num .u64]

theorem closed_two (a b : Int) : Closed (.tup [.int .u64 a, .int .u64 b]) := closed_tup fun v hv => by
  simp at hv; rcases hv with rfl | rfl <;> exact closed_int _ _

/-- Three numbers, or nothing. -/
theorem fit_n3 {as : List AV} (h : fit n3 as) : ∃ x y z, as = [.n x, .n y, .n z] := by
  match as, h with
  | [a, b, c], h =>
    obtain ⟨h1, h2, h3, -⟩ := h
    cases a <;> cases b <;> cases c <;> first | exact ⟨_, _, _, rfl⟩ | exact h1.elim | exact h2.elim | exact h3.elim
  | [], h => exact h.elim
  | [_], h => exact h.2.elim
  | [_, _], h => exact h.2.2.elim
  | _ :: _ :: _ :: _ :: _, h => exact h.2.2.2.elim

theorem add64_ext {P : Program} {g : FuncId} (h : ∀ (args : Array Value) w, (callFunc g args).run P w = ((add64Entry args).run P w).andThen fun v w' => .ok (.value v) w') : ExtOk P g (spG n3 add64F) := by
  refine ⟨fun args v hw hr => ?_, fun args v hr p => ?_, fun args v hw hr ρ w => ?_⟩
  · obtain ⟨as, ha, hr⟩ := spG_reach hr
    obtain ⟨x, y, z, rfl⟩ := fit_n3 (parse_spec ha hw).1
    simp only [add64F, T.reach_need, T.reach_ret] at hr
    obtain ⟨-, rfl⟩ := hr
    exact closed_two _ _
  · obtain ⟨as, ha, hr⟩ := spG_reach hr
    unfold add64F at hr
    split at hr
    · rw [T.reach_need, T.reach_ret] at hr
      obtain ⟨-, rfl⟩ := hr
      exact (closed_two _ _).ids p
    · exact (T.reach_fail hr).elim
  · obtain ⟨as, ha, hr⟩ := spG_reach hr
    obtain ⟨h1, h2, -⟩ := parse_spec ha hw
    obtain ⟨x, y, z, rfl⟩ := fit_n3 h1
    simp only [add64F, T.reach_need, T.reach_ret] at hr
    obtain ⟨⟨a, b, c, d⟩, rfl⟩ := hr
    rw [← h2 ρ, h]
    simp only [can, n3, can1, denL, SV.den]
    rw [run_add64 x y z a b c d]
    simp

def sub64Entry : Array Value → Sem Value := fun args => do
  let (x, y, b) ← Extern.MathBitsCarry.three "Sub64" args
  pure (Extern.MathBitsCarry.pair ((x + Extern.MathBitsCarry.m64 - y - b) % Extern.MathBitsCarry.m64) (if x < y + b then 1 else 0))

theorem run_sub64 {P : Program} (x y c : Int) (hx : 0 ≤ x) (hx1 : x < 18446744073709551616) (hy : 0 ≤ y) (hy1 : y < 18446744073709551616) (hc0 : 0 ≤ c) (hc : c ≤ 1) (w : World) :
    (sub64Entry #[.int .u64 x, .int .u64 y, .int .u64 c]).run P w =
      .ok (.tuple #[.int .u64 ((x - y - c) % 18446744073709551616), .int .u64 (if x < y + c then 1 else 0)]) w := by
  have key : ∀ k : Nat, k ≤ 1 → (sub64Entry #[.int .u64 x, .int .u64 y, .int .u64 (k : Int)]).run P w =
      .ok (Extern.MathBitsCarry.pair ((x.toNat + Extern.MathBitsCarry.m64 - y.toNat - k) % Extern.MathBitsCarry.m64) (if x.toNat < y.toNat + k then 1 else 0)) w := by
    intro k hk
    have : k = 0 ∨ k = 1 := by omega
    rcases this with rfl | rfl <;> rfl
  obtain ⟨k, rfl⟩ := Int.eq_ofNat_of_zero_le hc0
  rw [key k (by omega)]
  obtain ⟨X, rfl⟩ := Int.eq_ofNat_of_zero_le hx
  obtain ⟨Y, rfl⟩ := Int.eq_ofNat_of_zero_le hy
  simp only [Extern.MathBitsCarry.pair, Extern.MathBitsCarry.m64, Int.toNat_natCast]
  congr 4
  · simp; omega
  · simp
    congr 1
    split <;> split <;> omega

theorem sub64_ext {P : Program} {g : FuncId} (h : ∀ (args : Array Value) w, (callFunc g args).run P w = ((sub64Entry args).run P w).andThen fun v w' => .ok (.value v) w') : ExtOk P g (spG n3 sub64F) := by
  refine ⟨fun args v hw hr => ?_, fun args v hr p => ?_, fun args v hw hr ρ w => ?_⟩
  · obtain ⟨as, ha, hr⟩ := spG_reach hr
    obtain ⟨x, y, z, rfl⟩ := fit_n3 (parse_spec ha hw).1
    simp only [sub64F, T.reach_need, T.reach_ret] at hr
    obtain ⟨-, rfl⟩ := hr
    exact closed_two _ _
  · obtain ⟨as, ha, hr⟩ := spG_reach hr
    unfold sub64F at hr
    split at hr
    · rw [T.reach_need, T.reach_ret] at hr
      obtain ⟨-, rfl⟩ := hr
      exact (closed_two _ _).ids p
    · exact (T.reach_fail hr).elim
  · obtain ⟨as, ha, hr⟩ := spG_reach hr
    obtain ⟨h1, h2, -⟩ := parse_spec ha hw
    obtain ⟨x, y, z, rfl⟩ := fit_n3 h1
    simp only [sub64F, T.reach_need, T.reach_ret] at hr
    obtain ⟨⟨⟨a, a'⟩, ⟨b, b'⟩, c, d⟩, rfl⟩ := hr
    rw [← h2 ρ, h]
    simp only [can, n3, can1, denL, SV.den]
    rw [run_sub64 x y z a a' b b' c d]
    simp

def n2 : List AK := [.num .u64, .num .u64]
def n4 : List AK := [.num .u64, .num .u64, .num .u64, .num .u64]
def l2 : List AK := [.ints .u64 4, .ints .u64 4]
def l1 : List AK := [.ints .u64 4]

theorem fit_n2 {as : List AV} (h : fit n2 as) : ∃ x y, as = [.n x, .n y] := by
  match as, h with
  | [a, b], h =>
    obtain ⟨h1, h2, -⟩ := h
    cases a <;> cases b <;> first | exact ⟨_, _, rfl⟩ | exact h1.elim | exact h2.elim
  | [], h => exact h.elim
  | [_], h => exact h.2.elim
  | _ :: _ :: _ :: _, h => exact h.2.2.elim

theorem fit_n4 {as : List AV} (h : fit n4 as) : ∃ x y z u, as = [.n x, .n y, .n z, .n u] := by
  match as, h with
  | [a, b, c, d], h =>
    obtain ⟨h1, h2, h3, h4, -⟩ := h
    cases a <;> cases b <;> cases c <;> cases d <;> first | exact ⟨_, _, _, _, rfl⟩ | exact h1.elim | exact h2.elim | exact h3.elim | exact h4.elim
  | [], h => exact h.elim
  | [_], h => exact h.2.elim
  | [_, _], h => exact h.2.2.elim
  | [_, _, _], h => exact h.2.2.2.elim
  | _ :: _ :: _ :: _ :: _ :: _, h => exact h.2.2.2.2.elim

theorem len4 {l : List Int} (h : l.length = 4) : ∃ a b c d, l = [a, b, c, d] := by
  match l, h with
  | [a, b, c, d], _ => exact ⟨a, b, c, d, rfl⟩

theorem fit_l1 {k : IntKind} {n : Nat} {as : List AV} (h : fit [.ints k n] as) : ∃ a, as = [.l a] ∧ a.length = n := by
  match as, h with
  | [a], h => cases a <;> first | exact ⟨_, rfl, h.1⟩ | exact h.1.elim
  | [], h => exact h.elim
  | _ :: _ :: _, h => exact h.2.elim

theorem fit_l2 {k k' : IntKind} {n n' : Nat} {as : List AV} (h : fit [.ints k n, .ints k' n'] as) : ∃ a b, as = [.l a, .l b] ∧ a.length = n ∧ b.length = n' := by
  match as, h with
  | [a, b], h =>
    obtain ⟨h1, h2, -⟩ := h
    cases a <;> cases b <;> first | exact ⟨_, _, rfl, h1, h2⟩ | exact h1.elim | exact h2.elim
  | [], h => exact h.elim
  | [_], h => exact h.2.elim
  | _ :: _ :: _ :: _, h => exact h.2.2.elim

/-- The product of two digits: its upper half, and its lower one. -/
def mul64F : List AV → T SV
  | [.n x, .n y] => .need ((0 ≤ x ∧ x < 18446744073709551616) ∧ (0 ≤ y ∧ y < 18446744073709551616)) (.ret (.tup [.int .u64 (x * y / 18446744073709551616), .int .u64 (x * y % 18446744073709551616)]))
  | _ => .fail "Mul64"

theorem mul64F_ids : ∀ as v, T.Reach (mul64F as) v → ∀ p, v.ids p := by
  intro as v hr p
  unfold mul64F at hr
  split at hr
  · rw [T.reach_need, T.reach_ret] at hr
    obtain ⟨-, rfl⟩ := hr
    exact (closed_two _ _).ids p
  · exact (T.reach_fail hr).elim

/-- A product and two more digits: the lower half, and the upper one. -/
def stepF : List AV → T SV
  | [.n a, .n b, .n c, .n d] => .need ((0 ≤ a ∧ a < 18446744073709551616) ∧ (0 ≤ b ∧ b < 18446744073709551616) ∧ (0 ≤ c ∧ c < 18446744073709551616) ∧ (0 ≤ d ∧ d < 18446744073709551616))
    (.ret (.tup [.int .u64 ((a * b + c + d) % 18446744073709551616), .int .u64 ((a * b + c + d) / 18446744073709551616)]))
  | _ => .fail "step"

theorem stepF_ids : ∀ as v, T.Reach (stepF as) v → ∀ p, v.ids p := by
  intro as v hr p
  unfold stepF at hr
  split at hr
  · rw [T.reach_need, T.reach_ret] at hr
    obtain ⟨-, rfl⟩ := hr
    exact (closed_two _ _).ids p
  · exact (T.reach_fail hr).elim

def plusF : List AV → T SV
  | [.l a, .l b] => .need (U64 a ∧ U64 b) (.ret (.tup [.ints .u64 4 (toL 4 (val a + val b)), .int .u64 ((val a + val b) / pw 4)]))
  | _ => .fail "plus"

theorem plusF_ids : ∀ as v, T.Reach (plusF as) v → ∀ p, v.ids p := by
  intro as v hr p
  unfold plusF at hr
  split at hr
  · rw [T.reach_need, T.reach_ret] at hr
    obtain ⟨-, rfl⟩ := hr
    simp [SV.ids, idsL]
  · exact (T.reach_fail hr).elim

theorem wrap_u64 (x : Int) : IntKind.u64.wrap x = x % 18446744073709551616 := by simp [IntKind.wrap, IntKind.bits, IntKind.signed]
theorem shrI_u64 (x : Int) (k : Nat) (hk : k ≤ 64) : shrI .u64 x (k : Int) = x / 2 ^ k := by
  simp only [shrI, IntKind.bits, Int.toNat_natCast, Nat.min_eq_left hk]
  exact Int.fdiv_eq_ediv_of_nonneg _ (Int.le_of_lt (Int.pow_pos (by decide)))
theorem shr32 (x : Int) : shrI .u64 x 32 = x / 4294967296 := shrI_u64 x 32 (by omega)
theorem andI_low32 (z : Int) (h0 : 0 ≤ z) (h1 : z < 18446744073709551616) : bitsI .and .u64 z 4294967295 = z % 4294967296 := and_low32 z h0 h1

theorem mul64_hi (x y : Int) (hx : 0 ≤ x ∧ x < 18446744073709551616) (hy : 0 ≤ y ∧ y < 18446744073709551616) :
    IntKind.u64.wrap (IntKind.u64.wrap (IntKind.u64.wrap (shrI .u64 x 32 * shrI .u64 y 32) + shrI .u64 (IntKind.u64.wrap (IntKind.u64.wrap (shrI .u64 x 32 * bitsI .and .u64 y 4294967295) + shrI .u64 (IntKind.u64.wrap (bitsI .and .u64 x 4294967295 * bitsI .and .u64 y 4294967295)) 32)) 32) +
      shrI .u64 (IntKind.u64.wrap (bitsI .and .u64 (IntKind.u64.wrap (IntKind.u64.wrap (shrI .u64 x 32 * bitsI .and .u64 y 4294967295) + shrI .u64 (IntKind.u64.wrap (bitsI .and .u64 x 4294967295 * bitsI .and .u64 y 4294967295)) 32)) 4294967295 + IntKind.u64.wrap (bitsI .and .u64 x 4294967295 * shrI .u64 y 32))) 32) = x * y / 18446744073709551616 := by
  rw [andI_low32 x hx.1 hx.2, andI_low32 y hy.1 hy.2]
  simp only [wrap_u64, shr32]
  rw [andI_low32 _ (by omega) (by omega)]
  have := mul64_arith x y hx.1 hx.2 hy.1 hy.2
  rw [← this]
end Go.Sx
