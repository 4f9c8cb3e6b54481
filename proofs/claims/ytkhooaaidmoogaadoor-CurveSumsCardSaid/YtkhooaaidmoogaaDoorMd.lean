import Derived.Test.YtkhooaaidmoogaaDoorMb
/- Plain numbers: primes, Fermat's little theorem, and a test by which great numbers are seen to be primes. No program in sight. -/
namespace Go.Nt

def Prime (p : Nat) : Prop := 2 ≤ p ∧ ∀ m, m ∣ p → m = 1 ∨ m = p

theorem Prime.coprime {p a : Nat} (h : Prime p) (ha : ¬ p ∣ a) : Nat.gcd p a = 1 := by
  rcases h.2 (Nat.gcd p a) (Nat.gcd_dvd_left p a) with e | e
  · exact e
  · exact absurd (e ▸ Nat.gcd_dvd_right p a) ha

theorem Prime.dvd_mul {p a b : Nat} (h : Prime p) (hd : p ∣ a * b) : p ∣ a ∨ p ∣ b := by
  by_cases ha : p ∣ a
  · exact .inl ha
  · exact .inr (Nat.Coprime.dvd_of_dvd_mul_left (h.coprime ha) hd)

theorem Prime.dvd_pow {p a : Nat} (h : Prime p) : ∀ n, p ∣ a ^ n → p ∣ a
  | 0, hd => by
    rw [Nat.pow_zero] at hd
    have := Nat.le_of_dvd (by decide) hd
    have := h.1
    omega
  | n + 1, hd => by
    rw [Nat.pow_succ] at hd
    rcases h.dvd_mul hd with h1 | h1
    · exact h.dvd_pow n h1
    · exact h1

theorem exists_prime : ∀ n : Nat, 2 ≤ n → ∃ p, Prime p ∧ p ∣ n := by
  intro n
  induction n using Nat.strongRecOn with
  | _ n ih =>
    intro h2
    by_cases h : ∀ m, m ∣ n → m = 1 ∨ m = n
    · exact ⟨n, ⟨h2, h⟩, Nat.dvd_refl n⟩
    · have : ∃ m, m ∣ n ∧ m ≠ 1 ∧ m ≠ n := by
        apply Classical.byContradiction
        intro hc
        refine h fun m hm => ?_
        by_cases h1 : m = 1
        · exact .inl h1
        · by_cases h3 : m = n
          · exact .inr h3
          · exact absurd ⟨m, hm, h1, h3⟩ hc
      obtain ⟨m, hm, h1, h3⟩ := this
      have hpos : 0 < m := Nat.pos_of_dvd_of_pos hm (by omega)
      have hle := Nat.le_of_dvd (by omega) hm
      obtain ⟨p, hp, hd⟩ := ih m (by omega) (by omega)
      exact ⟨p, hp, Nat.dvd_trans hd hm⟩

/-! ### Lists without repetition -/
theorem perm_of_nodup {α : Type} [DecidableEq α] : ∀ {l m : List α}, l.Nodup → (∀ x ∈ l, x ∈ m) → m.length ≤ l.length → l.Perm m
  | [], m, _, _, hlen => by
    cases m with
    | nil => exact .nil
    | cons a m => simp at hlen
  | a :: l, m, hl, hs, hlen => by
    have ha := hs a (by simp)
    have p := List.perm_cons_erase ha
    obtain ⟨hna, hl'⟩ := List.nodup_cons.1 hl
    refine .trans (.cons a (perm_of_nodup (m := m.erase a) hl' (fun x hx => ?_) ?_)) p.symm
    · have hne : x ≠ a := fun e => hna (e ▸ hx)
      exact (List.mem_erase_of_ne hne).2 (hs x (by simp [hx]))
    · rw [List.length_erase_of_mem ha]
      simp at hlen
      omega

def prodL : List Nat → Nat
  | [] => 1
  | x :: l => x * prodL l

theorem prodL_perm {l m : List Nat} (h : l.Perm m) : prodL l = prodL m := by
  induction h with
  | nil => rfl
  | cons x _ ih => simp [prodL, ih]
  | swap x y l => simp only [prodL]; rw [← Nat.mul_assoc, ← Nat.mul_assoc, Nat.mul_comm x y]
  | trans _ _ ih1 ih2 => exact ih1.trans ih2

theorem prodL_map (p a : Nat) : ∀ l : List Nat, prodL (l.map fun i => a * i % p) % p = a ^ l.length * prodL l % p
  | [] => by simp [prodL]
  | x :: l => by
    have ih := prodL_map p a l
    simp only [List.map_cons, prodL, List.length_cons]
    rw [Nat.mul_mod, Nat.mod_mod, ih, ← Nat.mul_mod]
    congr 1
    rw [Nat.pow_succ]
    simp only [Nat.mul_assoc, Nat.mul_comm, Nat.mul_left_comm]

theorem prime_prodL {p : Nat} (hp : Prime p) : ∀ l : List Nat, (∀ x ∈ l, ¬ p ∣ x) → ¬ p ∣ prodL l
  | [], _, h => by
    simp only [prodL] at h
    have := Nat.le_of_dvd (by decide) h
    have := hp.1
    omega
  | x :: l, hl, h => by
    rcases hp.dvd_mul h with h | h
    · exact hl x (by simp) h
    · exact prime_prodL hp l (fun y hy => hl y (by simp [hy])) h

theorem dvd_of_mod_eq {p x y : Nat} (h : x % p = y % p) (_ : y ≤ x) : p ∣ x - y := Nat.dvd_of_mod_eq_zero (Nat.sub_mod_eq_zero_of_mod_eq h)

theorem mul_inj {p a i j : Nat} (hp : Prime p) (ha : ¬ p ∣ a) (hi : i < p) (hj : j < p) (h : a * i % p = a * j % p) : i = j := by
  have key : ∀ i j : Nat, i < p → i ≤ j → j < p → a * i % p = a * j % p → i = j := by
    intro i j hi hle hj h
    have hd := dvd_of_mod_eq h.symm (Nat.mul_le_mul_left a hle)
    rw [← Nat.mul_sub] at hd
    rcases hp.dvd_mul hd with h1 | h1
    · exact absurd h1 ha
    · rcases Nat.eq_zero_or_pos (j - i) with h0 | h0
      · omega
      · have := Nat.le_of_dvd h0 h1
        omega
  rcases Nat.le_total i j with h' | h'
  · exact key i j hi h' hj h
  · exact (key j i hj h' hi h.symm).symm

/-- **Fermat's little theorem.** -/
theorem fermat {p a : Nat} (hp : Prime p) (ha : ¬ p ∣ a) : a ^ (p - 1) % p = 1 := by
  have h2 := hp.1
  have mem : ∀ x, x ∈ List.range' 1 (p - 1) ↔ 1 ≤ x ∧ x < p := by
    intro x; rw [List.mem_range'_1]; omega
  have hperm : ((List.range' 1 (p - 1)).map fun i => a * i % p).Perm (List.range' 1 (p - 1)) := by
    refine perm_of_nodup ?_ ?_ (by simp)
    · rw [List.Nodup, List.pairwise_map]
      refine List.Pairwise.imp_of_mem (fun {x y} hx hy hne he => hne (mul_inj hp ha ((mem x).1 hx).2 ((mem y).1 hy).2 he)) (List.nodup_range' (s := 1) (n := p - 1))
    · intro x hx
      rw [List.mem_map] at hx
      obtain ⟨i, hi, rfl⟩ := hx
      rw [mem] at hi ⊢
      refine ⟨?_, Nat.mod_lt _ (by omega)⟩
      apply Nat.pos_of_ne_zero
      intro h0
      rcases hp.dvd_mul (Nat.dvd_of_mod_eq_zero h0) with h | h
      · exact ha h
      · have := Nat.le_of_dvd (by omega) h
        omega
  have h1 := prodL_map p a (List.range' 1 (p - 1))
  rw [prodL_perm hperm, List.length_range'] at h1
  have hn : ¬ p ∣ prodL (List.range' 1 (p - 1)) := prime_prodL hp _ fun x hx h => by
    have := (mem x).1 hx
    have := Nat.le_of_dvd (by omega) h
    omega
  have h3 : prodL (List.range' 1 (p - 1)) * (a ^ (p - 1) % p) % p = prodL (List.range' 1 (p - 1)) * 1 % p := by
    rw [Nat.mul_mod, Nat.mod_mod, ← Nat.mul_mod, Nat.mul_one, Nat.mul_comm]; exact h1.symm
  exact mul_inj hp hn (Nat.mod_lt _ (by omega)) (by omega) h3

/-! ### Orders -/
theorem pow_mod_pow (p a m : Nat) (h : a ^ m % p = 1 % p) (k : Nat) : a ^ (m * k) % p = 1 % p := by
  induction k with
  | zero => simp
  | succ k ih => rw [Nat.mul_succ, Nat.pow_add, Nat.mul_mod, ih, h, ← Nat.mul_mod, Nat.mul_one]

theorem pow_gcd (p a m n : Nat) : a ^ m % p = 1 % p → a ^ n % p = 1 % p → a ^ Nat.gcd m n % p = 1 % p := by
  induction m, n using Nat.gcd.induction with
  | H0 n => intro _ h; rw [Nat.gcd_zero_left]; exact h
  | H1 m n hpos ih =>
    intro hm hn
    rw [Nat.gcd_rec]
    refine ih ?_ hm
    have h1 := pow_mod_pow p a m hm (n / m)
    have h2 : a ^ n = a ^ (m * (n / m)) * a ^ (n % m) := by rw [← Nat.pow_add, Nat.div_add_mod]
    rw [h2, Nat.mul_mod, h1, ← Nat.mul_mod, Nat.one_mul] at hn
    exact hn

theorem mod_of_dvd {p N x y : Nat} (hd : p ∣ N) (h : x % N = y % N) : x % p = y % p := by
  rw [← Nat.mod_mod_of_dvd x hd, h, Nat.mod_mod_of_dvd y hd]

/-- Of a prime divisor p of N: q divides p - 1. -/
theorem pock1 {N p q a : Nat} (hN : 2 ≤ N) (hp : Prime p) (hpN : p ∣ N) (hq : Prime q) (hqN : q ∣ N - 1) (h1 : a ^ (N - 1) % N = 1) (h2 : Nat.gcd (a ^ ((N - 1) / q) % N + (N - 1)) N = 1) : q ∣ p - 1 := by
  apply Classical.byContradiction
  intro hno
  have hp2 := hp.1
  obtain ⟨m, hm⟩ := hqN
  have hq0 : 0 < q := by have := hq.1; omega
  have hmq : (N - 1) / q = m := by rw [hm, Nat.mul_div_cancel_left m hq0]
  rw [hmq] at h2
  have h1p : a ^ (N - 1) % p = 1 % p := mod_of_dvd hpN (by rw [h1, Nat.mod_eq_of_lt (by omega)])
  have hap : ¬ p ∣ a ^ m := by
    intro hd
    have : p ∣ a ^ (N - 1) := by
      obtain ⟨q', rfl⟩ : ∃ q', q = q' + 1 := ⟨q - 1, by omega⟩
      rw [hm, Nat.mul_comm, Nat.pow_mul, Nat.pow_succ]
      exact Nat.dvd_trans hd (Nat.dvd_mul_left _ _)
    rw [Nat.mod_eq_zero_of_dvd this, Nat.mod_eq_of_lt (by omega)] at h1p
    cases h1p
  have y1 : (a ^ m) ^ q % p = 1 % p := by rw [← Nat.pow_mul, Nat.mul_comm, ← hm]; exact h1p
  have y2 : (a ^ m) ^ (p - 1) % p = 1 % p := by rw [fermat hp hap, Nat.mod_eq_of_lt (by omega)]
  have y3 := pow_gcd p (a ^ m) q (p - 1) y1 y2
  rw [hq.coprime hno, Nat.pow_one] at y3
  have hd : p ∣ a ^ m % N + (N - 1) := by
    refine Nat.dvd_of_mod_eq_zero ?_
    rw [Nat.add_mod, Nat.mod_mod_of_dvd _ hpN, y3, ← Nat.add_mod, show 1 + (N - 1) = N by omega]
    exact Nat.mod_eq_zero_of_dvd hpN
  have := Nat.le_of_dvd (by decide) (h2 ▸ Nat.dvd_gcd hd hpN)
  omega

/-! ### The test -/
/-- A power modulo N, by bits. -/
def pmn (a N : Nat) : Nat → Nat → Nat
  | 0, _ => 1 % N
  | f + 1, e => match Nat.beq e 0 with
    | true => 1 % N
    | false => match Nat.beq (e % 2) 1 with
      | true => (fun r => r * r % N * a % N) (pmn a N f (e / 2))
      | false => (fun r => r * r % N) (pmn a N f (e / 2))

theorem pmn_eq (a N : Nat) : ∀ (f e : Nat), e < 2 ^ f → pmn a N f e = a ^ e % N
  | 0, e, h => by
    have : e = 0 := by simp at h; exact h
    subst this; simp [pmn]
  | f + 1, e, h => by
    have ih := pmn_eq a N f (e / 2) (by rw [Nat.pow_succ] at h; omega)
    have hsq : (a ^ (e / 2) % N) * (a ^ (e / 2) % N) % N = a ^ (2 * (e / 2)) % N := by
      rw [← Nat.mul_mod, ← Nat.pow_add]; congr 2; omega
    unfold pmn
    split
    · rename_i h0; have := Nat.eq_of_beq_eq_true h0; subst this; simp
    · split
      · rename_i h1
        have h1 := Nat.eq_of_beq_eq_true h1
        rw [ih]
        show (a ^ (e / 2) % N) * (a ^ (e / 2) % N) % N * a % N = a ^ e % N
        rw [hsq, Nat.mul_mod, Nat.mod_mod, ← Nat.mul_mod, ← Nat.pow_succ]
        congr 2; omega
      · rename_i h1
        have h1 : ¬ e % 2 = 1 := fun hc => by rw [hc] at h1; simp at h1
        rw [ih]
        show (a ^ (e / 2) % N) * (a ^ (e / 2) % N) % N = a ^ e % N
        rw [hsq]
        congr 2; omega

/-- One row of a certificate: a prime q, and its witness a. -/
def rowOk (N : Nat) (q a : Nat) : Bool :=
  Nat.beq ((N - 1) % q) 0 && Nat.beq (pmn a N 300 (N - 1)) 1 && Nat.beq (Nat.gcd (pmn a N 300 ((N - 1) / q) + (N - 1)) N) 1

def rowsOk (N : Nat) : List (Nat × Nat) → Bool
  | [] => true
  | (q, a) :: l => rowOk N q a && Nat.beq (Nat.gcd q (prodL (l.map (·.1)))) 1 && rowsOk N l

def certOk (N : Nat) (l : List (Nat × Nat)) : Bool :=
  Nat.ble 2 N && Nat.blt N (2 ^ 300) && rowsOk N l && Nat.ble N (prodL (l.map (·.1)) * prodL (l.map (·.1)))

theorem rows_dvd {N p : Nat} (hN : 2 ≤ N) (hlt : N < 2 ^ 300) (hp : Prime p) (hpN : p ∣ N) : ∀ l : List (Nat × Nat), rowsOk N l = true → (∀ x ∈ l, Prime x.1) → prodL (l.map (·.1)) ∣ p - 1
  | [], _, _ => by simp [prodL]
  | (q, a) :: l, h, hl => by
    simp only [rowsOk, rowOk, Bool.and_eq_true, Nat.beq_eq] at h
    obtain ⟨⟨⟨⟨h0, h1⟩, h2⟩, h3⟩, h4⟩ := h
    have hq := hl (q, a) (by simp)
    rw [pmn_eq _ _ _ _ (by omega)] at h1
    rw [pmn_eq _ _ _ _ (Nat.lt_of_le_of_lt (Nat.div_le_self _ _) (by omega))] at h2
    have ih := rows_dvd hN hlt hp hpN l h4 (fun x hx => hl x (by simp [hx]))
    exact Nat.Coprime.mul_dvd_of_dvd_of_dvd h3 (pock1 hN hp hpN hq (Nat.dvd_of_mod_eq_zero h0) h1 h2) ih

/-- **A number with a certificate is a prime.** -/
theorem prime_of_cert {N : Nat} (l : List (Nat × Nat)) (h : certOk N l = true) (hl : ∀ x ∈ l, Prime x.1) : Prime N := by
  simp only [certOk, Bool.and_eq_true] at h
  obtain ⟨⟨⟨h1, h2⟩, h3⟩, h4⟩ := h
  have h1 : 2 ≤ N := Nat.le_of_ble_eq_true h1
  have h2 : N < 2 ^ 300 := Nat.le_of_ble_eq_true h2
  have h4 := Nat.le_of_ble_eq_true h4
  have big : ∀ m, m ∣ N → m ≠ 1 → prodL (l.map (·.1)) < m := by
    intro m hm hne
    have hm0 : 0 < m := Nat.pos_of_dvd_of_pos hm (by omega)
    obtain ⟨p, hp, hd⟩ := exists_prime m (by omega)
    have hF := rows_dvd h1 h2 hp (Nat.dvd_trans hd hm) l h3 hl
    have := hp.1
    have h5 := Nat.le_of_dvd (by omega) hF
    have h6 := Nat.le_of_dvd hm0 hd
    omega
  refine ⟨h1, fun m hm => ?_⟩
  by_cases e1 : m = 1
  · exact .inl e1
  · right
    obtain ⟨k, hk⟩ := hm
    by_cases e2 : k = 1
    · rw [hk, e2, Nat.mul_one]
    · exfalso
      have a1 := big m ⟨k, hk⟩ e1
      have a2 := big k ⟨m, by rw [hk, Nat.mul_comm]⟩ e2
      have := Nat.mul_lt_mul'' a1 a2
      omega

/-- Small primes, by trial. -/
def trialF (n : Nat) : Nat → Nat → Bool
  | 0, k => Nat.blt n (k * k)
  | f + 1, k => match Nat.blt n (k * k) with
    | true => true
    | false => match Nat.beq (n % k) 0 with
      | true => false
      | false => trialF n f (k + 1)

theorem trialF_spec (n : Nat) : ∀ (f k : Nat), trialF n f k = true → ∀ m, k ≤ m → m * m ≤ n → ¬ m ∣ n
  | 0, k, h, m, hk, hm, _ => by
    have h : n < k * k := Nat.le_of_ble_eq_true h
    have := Nat.mul_le_mul hk hk
    omega
  | f + 1, k, h, m, hk, hm, hd => by
    simp only [trialF] at h
    split at h
    · rename_i h1
      have h1 : n < k * k := Nat.le_of_ble_eq_true h1
      have := Nat.mul_le_mul hk hk
      omega
    · split at h
      · cases h
      · rename_i h2
        by_cases e : m = k
        · subst e
          rw [Nat.mod_eq_zero_of_dvd hd] at h2
          cases h2
        · exact trialF_spec n f (k + 1) h m (by omega) hm hd

theorem prime_of_trial {n : Nat} (f : Nat) (h : (Nat.ble 2 n && trialF n f 2) = true) : Prime n := by
  simp only [Bool.and_eq_true] at h
  have h1 : 2 ≤ n := Nat.le_of_ble_eq_true h.1
  have h2 := trialF_spec n f 2 h.2
  refine ⟨h1, fun m hm => ?_⟩
  obtain ⟨k, hk⟩ := hm
  by_cases e1 : m = 1
  · exact .inl e1
  · right
    by_cases e2 : k = 1
    · rw [hk, e2, Nat.mul_one]
    · exfalso
      have hm0 : m ≠ 0 := fun e => by rw [hk, e, Nat.zero_mul] at h1; omega
      have hk0 : k ≠ 0 := fun e => by rw [hk, e, Nat.mul_zero] at h1; omega
      rcases Nat.le_total m k with hle | hle
      · exact h2 m (by omega) (by rw [hk]; exact Nat.mul_le_mul_left m hle) ⟨k, hk⟩
      · exact h2 k (by omega) (by rw [hk]; exact Nat.mul_le_mul_right k hle) ⟨m, by rw [hk, Nat.mul_comm]⟩
end Go.Nt

/- P and L are primes: their certificates. No program in sight. -/
namespace Go.Nt
set_option maxRecDepth 100000
theorem pr991 : Prime 991 := prime_of_trial 34 (by decide +kernel)
theorem pr103 : Prime 103 := prime_of_trial 13 (by decide +kernel)
theorem pr8574133 : Prime 8574133 := prime_of_cert [(991, 2), (103, 2)] (by decide +kernel) (by
  intro x hx
  simp only [List.mem_cons, List.not_mem_nil, or_false] at hx
  rcases hx with rfl | rfl
  · exact pr991
  · exact pr103)
theorem pr127 : Prime 127 := prime_of_trial 14 (by decide +kernel)
theorem pr1919519569386763 : Prime 1919519569386763 := prime_of_cert [(8574133, 2), (127, 2)] (by decide +kernel) (by
  intro x hx
  simp only [List.mem_cons, List.not_mem_nil, or_false] at hx
  rcases hx with rfl | rfl
  · exact pr8574133
  · exact pr127)
theorem pr569003 : Prime 569003 := prime_of_trial 757 (by decide +kernel)
theorem pr2773320623 : Prime 2773320623 := prime_of_cert [(569003, 2)] (by decide +kernel) (by
  intro x hx
  simp only [List.mem_cons, List.not_mem_nil, or_false] at hx
  rcases hx with rfl
  · exact pr569003)
theorem pr72106336199 : Prime 72106336199 := prime_of_cert [(2773320623, 2)] (by decide +kernel) (by
  intro x hx
  simp only [List.mem_cons, List.not_mem_nil, or_false] at hx
  rcases hx with rfl
  · exact pr2773320623)
theorem pr75445702479781427272750846543864801 : Prime 75445702479781427272750846543864801 := prime_of_cert [(1919519569386763, 2), (72106336199, 2)] (by decide +kernel) (by
  intro x hx
  simp only [List.mem_cons, List.not_mem_nil, or_false] at hx
  rcases hx with rfl | rfl
  · exact pr1919519569386763
  · exact pr72106336199)
theorem pr430751 : Prime 430751 := prime_of_trial 659 (by decide +kernel)
theorem pr4153 : Prime 4153 := prime_of_trial 67 (by decide +kernel)
theorem pr31757755568855353 : Prime 31757755568855353 := prime_of_cert [(430751, 2), (4153, 2)] (by decide +kernel) (by
  intro x hx
  simp only [List.mem_cons, List.not_mem_nil, or_false] at hx
  rcases hx with rfl | rfl
  · exact pr430751
  · exact pr4153)
theorem pr74058212732561358302231226437062788676166966415465897661863160754340907 : Prime 74058212732561358302231226437062788676166966415465897661863160754340907 := prime_of_cert [(75445702479781427272750846543864801, 2), (31757755568855353, 2)] (by decide +kernel) (by
  intro x hx
  simp only [List.mem_cons, List.not_mem_nil, or_false] at hx
  rcases hx with rfl | rfl
  · exact pr75445702479781427272750846543864801
  · exact pr31757755568855353)
theorem pr57896044618658097711785492504343953926634992332820282019728792003956564819949 : Prime 57896044618658097711785492504343953926634992332820282019728792003956564819949 := prime_of_cert [(74058212732561358302231226437062788676166966415465897661863160754340907, 2)] (by decide +kernel) (by
  intro x hx
  simp only [List.mem_cons, List.not_mem_nil, or_false] at hx
  rcases hx with rfl
  · exact pr74058212732561358302231226437062788676166966415465897661863160754340907)
theorem pr1224481 : Prime 1224481 := prime_of_trial 1109 (by decide +kernel)
theorem pr531581 : Prime 531581 := prime_of_trial 732 (by decide +kernel)
theorem pr1257559732178653 : Prime 1257559732178653 := prime_of_cert [(1224481, 2), (531581, 2)] (by decide +kernel) (by
  intro x hx
  simp only [List.mem_cons, List.not_mem_nil, or_false] at hx
  rcases hx with rfl | rfl
  · exact pr1224481
  · exact pr531581)
theorem pr4434155615661930479 : Prime 4434155615661930479 := prime_of_cert [(1257559732178653, 2)] (by decide +kernel) (by
  intro x hx
  simp only [List.mem_cons, List.not_mem_nil, or_false] at hx
  rcases hx with rfl
  · exact pr1257559732178653)
theorem pr172054593956031949258510691 : Prime 172054593956031949258510691 := prime_of_cert [(4434155615661930479, 2)] (by decide +kernel) (by
  intro x hx
  simp only [List.mem_cons, List.not_mem_nil, or_false] at hx
  rcases hx with rfl
  · exact pr4434155615661930479)
theorem pr19757330305831588566944191468367130476339 : Prime 19757330305831588566944191468367130476339 := prime_of_cert [(172054593956031949258510691, 2)] (by decide +kernel) (by
  intro x hx
  simp only [List.mem_cons, List.not_mem_nil, or_false] at hx
  rcases hx with rfl
  · exact pr172054593956031949258510691)
theorem pr276602624281642239937218680557139826668747 : Prime 276602624281642239937218680557139826668747 := prime_of_cert [(19757330305831588566944191468367130476339, 2)] (by decide +kernel) (by
  intro x hx
  simp only [List.mem_cons, List.not_mem_nil, or_false] at hx
  rcases hx with rfl
  · exact pr19757330305831588566944191468367130476339)
theorem pr7237005577332262213973186563042994240857116359379907606001950938285454250989 : Prime 7237005577332262213973186563042994240857116359379907606001950938285454250989 := prime_of_cert [(276602624281642239937218680557139826668747, 2)] (by decide +kernel) (by
  intro x hx
  simp only [List.mem_cons, List.not_mem_nil, or_false] at hx
  rcases hx with rfl
  · exact pr276602624281642239937218680557139826668747)
end Go.Nt

/- The field of a prime, as numbers below it: inverses, squares, roots. No program in sight. -/
namespace Go.Nt

section
variable {n : Nat} [NeZero n]

theorem fin_dvd {n : Nat} [NeZero n] (x y : Fin n) (h : x * y = 0) : n ∣ x.val * y.val := by
  have := congrArg Fin.val h
  rw [Fin.val_mul] at this
  exact Nat.dvd_of_mod_eq_zero (by simpa using this)

theorem fin_zero {n : Nat} [NeZero n] (x : Fin n) (h : n ∣ x.val) : x = 0 := by
  apply Fin.ext
  have := x.isLt
  rcases Nat.eq_zero_or_pos x.val with h0 | h0
  · simpa using h0
  · have := Nat.le_of_dvd h0 h
    omega

theorem pow0 (x : Fin n) : x ^ 0 = 1 := by grind
theorem pow1 (x : Fin n) : x ^ 1 = x := by grind
theorem powS (x : Fin n) (k : Nat) : x ^ (k + 1) = x ^ k * x := by grind
theorem powA (x : Fin n) (a b : Nat) : x ^ (a + b) = x ^ a * x ^ b := by
  induction b with
  | zero => rw [pow0, Nat.add_zero]; grind
  | succ b ih => rw [← Nat.add_assoc, powS, ih, powS]; grind

theorem mul_zero_or (hp : Prime n) (x y : Fin n) (h : x * y = 0) : x = 0 ∨ y = 0 := by
  rcases hp.dvd_mul (fin_dvd x y h) with h | h
  · exact .inl (fin_zero x h)
  · exact .inr (fin_zero y h)

theorem fin_pow_val (x : Fin n) (k : Nat) : (x ^ k).val = x.val ^ k % n := by
  induction k with
  | zero =>
    have : x ^ 0 = 1 := by grind
    rw [this, Nat.pow_zero]
    rfl
  | succ k ih =>
    have : x ^ (k + 1) = x ^ k * x := by grind
    rw [this, Fin.val_mul, ih, Nat.pow_succ, Nat.mul_mod, Nat.mod_mod, ← Nat.mul_mod]

theorem fermatF (hp : Prime n) (x : Fin n) (h : x ≠ 0) : x ^ (n - 1) = 1 := by
  apply Fin.ext
  rw [fin_pow_val, fermat hp (fun hd => h (fin_zero x hd))]
  have := hp.1
  exact (Nat.mod_eq_of_lt (show 1 < n by omega)).symm

theorem one_ne_zero (hp : Prime n) : (1 : Fin n) ≠ 0 := by
  intro h
  have h1 : 1 % n = 0 % n := congrArg Fin.val h
  have := hp.1
  rw [Nat.mod_eq_of_lt (show 1 < n by omega), Nat.mod_eq_of_lt (show 0 < n by omega)] at h1
  cases h1

/-- What a number is multiplied by to be 1. -/
def inv (x : Fin n) : Fin n := x ^ (n - 2)

theorem mul_inv (hp : Prime n) (x : Fin n) (h : x ≠ 0) : x * inv x = 1 := by
  have h1 := fermatF hp x h
  have := hp.1
  unfold inv
  have e : x * x ^ (n - 2) = x ^ (n - 2 + 1) := by rw [powS]; grind
  rw [e, show n - 2 + 1 = n - 1 by omega, h1]

theorem pow_zero' {k : Nat} (h : 0 < k) : (0 : Fin n) ^ k = 0 := by
  obtain ⟨j, rfl⟩ : ∃ j, k = j + 1 := ⟨k - 1, by omega⟩
  rw [powS]; grind

theorem inv_zero (h : 2 < n) : inv (0 : Fin n) = 0 := pow_zero' (by omega)

theorem pow_mul' (x : Fin n) (a b : Nat) : x ^ (a * b) = (x ^ a) ^ b := by
  induction b with
  | zero => rw [pow0, Nat.mul_zero, pow0]
  | succ b ih => rw [Nat.mul_succ, powA, powS, ih]

theorem mul_pow' (x y : Fin n) (k : Nat) : (x * y) ^ k = x ^ k * y ^ k := by
  induction k with
  | zero => rw [pow0, pow0, pow0]; grind
  | succ k ih => rw [powS, powS, powS, ih]; grind

theorem sq_eq (hp : Prime n) (x y : Fin n) (h : x * x = y * y) : x = y ∨ x = -y := by
  have : (x - y) * (x + y) = 0 := by grind
  rcases mul_zero_or hp _ _ this with h | h
  · left; grind
  · right; grind

/-- **A root of u, divided by v: of (u / v) to the power of (n + 3) / 8, it or it times a root of -1, if there is any.** -/
theorem root_alt (hp : Prime n) {k : Nat} (hk : n = 8 * k + 5) (s : Fin n) (hs : s * s = -1) (u v q : Fin n) (hq : q = (u * inv v) ^ (k + 1)) :
    v * (q * q) = u ∨ v * (q * s * (q * s)) = u ∨ ∀ t, v * (t * t) ≠ u := by
  by_cases hv : v = 0
  · by_cases hu : u = 0
    · left; rw [hv, hu]; grind
    · right; right
      intro t ht
      rw [hv] at ht
      exact hu (by grind)
  · have hvi := mul_inv hp v hv
    generalize hw : u * inv v = w at hq
    have hwu : v * w = u := by rw [← hw]; grind
    by_cases hex : ∃ t, v * (t * t) = u
    · obtain ⟨t, ht⟩ := hex
      have hwt : w = t * t := by rw [← hw]; grind
      by_cases ht0 : t = 0
      · left
        have hw0 : w = 0 := by rw [hwt, ht0]; grind
        have hq0 : q = 0 := by rw [hq, hw0]; exact pow_zero' (by omega)
        rw [hq0]; grind
      · have hf := fermatF hp t ht0
        have hq2 : q * q = w * w ^ (2 * k + 1) := by
          rw [hq, ← powA, show k + 1 + (k + 1) = 2 * k + 1 + 1 by omega, powS]; grind
        have h1 : w ^ (2 * k + 1) * w ^ (2 * k + 1) = 1 * 1 := by
          have e2 : w = t ^ 2 := by rw [hwt]; grind
          rw [← powA, e2, ← pow_mul', show 2 * (2 * k + 1 + (2 * k + 1)) = n - 1 by omega, hf]; grind
        rcases sq_eq hp _ _ h1 with h | h
        · left; rw [hq2, h]; grind
        · right; left
          have : q * s * (q * s) = q * q * (s * s) := by grind
          rw [this, hs, hq2, h]; grind
    · right; right
      intro t ht
      exact hex ⟨t, ht⟩

/-- Whether a number has a root. -/
def Sq (x : Fin n) : Prop := ∃ t, t * t = x

/-- Of two numbers without a root their product has one. -/
theorem Sq.mul (x y : Fin n) : Sq x → Sq y → Sq (x * y) := fun ⟨a, ha⟩ ⟨b, hb⟩ => ⟨a * b, by rw [← ha, ← hb]; grind⟩

theorem Sq.div (hp : Prime n) (x y : Fin n) (hx : x ≠ 0) (h : Sq x) (hxy : Sq (x * y)) : Sq y := by
  obtain ⟨a, ha⟩ := h
  obtain ⟨c, hc⟩ := hxy
  have hi := mul_inv hp x hx
  refine ⟨c * a * inv x, ?_⟩
  have : c * a * inv x * (c * a * inv x) = (c * c) * (a * a) * inv x * inv x := by grind
  rw [this, hc, ha]
  grind
end

/-! ### A number without a root: the power of (n - 1) / 2 tells -/
section
variable {n : Nat} [NeZero n]

theorem euler_sq (hp : Prime n) {k : Nat} (hk : n = 2 * k + 1) (x : Fin n) (hx : x ≠ 0) (h : Sq x) : x ^ k = 1 := by
  obtain ⟨t, ht⟩ := h
  have ht0 : t ≠ 0 := fun e => hx (by rw [← ht, e]; grind)
  have e2 : x = t ^ 2 := by rw [← ht]; grind
  rw [e2, ← pow_mul', show 2 * k = n - 1 by omega]
  exact fermatF hp t ht0

theorem euler_pm (hp : Prime n) {k : Nat} (hk : n = 2 * k + 1) (x : Fin n) (hx : x ≠ 0) : x ^ k = 1 ∨ x ^ k = -1 := by
  have h := fermatF hp x hx
  have h1 : x ^ k * x ^ k = 1 * 1 := by
    rw [← powA, show k + k = n - 1 by omega, h]; grind
  exact sq_eq hp _ _ h1

/-- In the field of 8 k + 5: if the power of (n - 1) / 2 is 1 there is a root. -/
theorem sq_of_euler (hp : Prime n) {k : Nat} (_ : n = 8 * k + 5) (s : Fin n) (hs : s * s = -1) (x : Fin n) (h : x ^ (4 * k + 2) = 1) : Sq x := by
  have h1 : x ^ (2 * k + 1) * x ^ (2 * k + 1) = 1 * 1 := by
    rw [← powA, show 2 * k + 1 + (2 * k + 1) = 4 * k + 2 by omega, h]; grind
  have hq2 : x ^ (k + 1) * x ^ (k + 1) = x * x ^ (2 * k + 1) := by
    rw [← powA, show k + 1 + (k + 1) = 2 * k + 1 + 1 by omega, powS]; grind
  generalize x ^ (k + 1) = q at hq2
  rcases sq_eq hp _ _ h1 with h | h
  · exact ⟨q, by rw [hq2, h]; grind⟩
  · refine ⟨q * s, ?_⟩
    have : q * s * (q * s) = q * q * (s * s) := by grind
    rw [this, hs, hq2, h]; grind

theorem not_sq_mul (hp : Prime n) {k : Nat} (hk : n = 8 * k + 5) (s : Fin n) (hs : s * s = -1) (x y : Fin n) (hx : ¬ Sq x) (hy : ¬ Sq y) : Sq (x * y) := by
  have zero : Sq (0 : Fin n) := ⟨0, by grind⟩
  have hx0 : x ≠ 0 := fun e => hx (e ▸ zero)
  have hy0 : y ≠ 0 := fun e => hy (e ▸ zero)
  have h1 := euler_pm hp (k := 4 * k + 2) (by omega) x hx0
  have h2 := euler_pm hp (k := 4 * k + 2) (by omega) y hy0
  have e1 : x ^ (4 * k + 2) = -1 := h1.resolve_left fun h => hx (sq_of_euler hp hk s hs x h)
  have e2 : y ^ (4 * k + 2) = -1 := h2.resolve_left fun h => hy (sq_of_euler hp hk s hs y h)
  exact sq_of_euler hp hk s hs _ (by rw [mul_pow', e1, e2]; grind)
end

/-! ### Whole numbers, taken modulo n -/
section
variable (n : Nat) [NeZero n]

def toF (x : Int) : Fin n := ⟨(x % (n : Int)).toNat, by
  have h0 : 0 < n := Nat.pos_of_ne_zero (NeZero.ne n)
  have h1 := Int.emod_nonneg x (show (n : Int) ≠ 0 by omega)
  have h2 := Int.emod_lt_of_pos x (show 0 < (n : Int) by omega)
  omega⟩

theorem toF_val (x : Int) : ((toF n x).val : Int) = x % n := by
  have h0 : 0 < n := Nat.pos_of_ne_zero (NeZero.ne n)
  have h1 := Int.emod_nonneg x (show (n : Int) ≠ 0 by omega)
  simp only [toF]
  omega

theorem toF_eq {x y : Int} : toF n x = toF n y ↔ x % n = y % n := by
  constructor
  · intro h
    have := congrArg (fun z : Fin n => (z.val : Int)) h
    simpa only [toF_val] using this
  · intro h
    apply Fin.ext
    have h1 := toF_val n x
    have h2 := toF_val n y
    omega

theorem toF_mod (x : Int) : toF n (x % n) = toF n x := (toF_eq n).2 (Int.emod_emod_of_dvd _ (Int.dvd_refl _))

theorem toF_of (a : Fin n) (x : Int) (h : (a.val : Int) % n = x % n) : a = toF n x := by
  apply Fin.ext
  have h1 := toF_val n x
  have h2 := Int.emod_eq_of_lt (a := (a.val : Int)) (b := n) (by omega) (by have := a.isLt; omega)
  omega

theorem toF_add (x y : Int) : toF n (x + y) = toF n x + toF n y := by
  symm
  apply toF_of
  rw [Fin.val_add]
  rw [Int.natCast_emod, Int.natCast_add, toF_val, toF_val, Int.emod_emod_of_dvd _ (Int.dvd_refl _), ← Int.add_emod]

theorem toF_mul (x y : Int) : toF n (x * y) = toF n x * toF n y := by
  symm
  apply toF_of
  rw [Fin.val_mul]
  rw [Int.natCast_emod, Int.natCast_mul, toF_val, toF_val, Int.emod_emod_of_dvd _ (Int.dvd_refl _), ← Int.mul_emod]

theorem toF_zero : toF n 0 = 0 := by
  symm; apply toF_of; simp
theorem toF_one : toF n 1 = 1 := by
  symm; apply toF_of
  show ((1 % n : Nat) : Int) % n = 1 % n
  rw [Int.natCast_emod, Int.emod_emod_of_dvd _ (Int.dvd_refl _)]; rfl

theorem toF_neg (x : Int) : toF n (-x) = -toF n x := by
  have h : toF n (-x) + toF n x = 0 := by rw [← toF_add, Int.add_left_neg, toF_zero]
  grind
theorem toF_sub (x y : Int) : toF n (x - y) = toF n x - toF n y := by
  rw [Int.sub_eq_add_neg, toF_add, toF_neg]; grind
theorem toF_pow (x : Int) (k : Nat) : toF n (x ^ k) = toF n x ^ k := by
  induction k with
  | zero => rw [Int.pow_zero, toF_one, pow0]
  | succ k ih => rw [Int.pow_succ, toF_mul, ih, powS]
end
end Go.Nt

/- The curve: -x² + y² = 1 + d x² y² over a prime field, where d has no root and -1 has one: the sum is defined everywhere, and the points are a group. No program in sight. -/
namespace Go.Nt

structure Pt (n : Nat) where
  x : Fin n
  y : Fin n

theorem Pt.eq {n : Nat} {p q : Pt n} (h1 : p.x = q.x) (h2 : p.y = q.y) : p = q := by
  cases p; cases q; simp_all

section
variable {n : Nat} [NeZero n]

/-- What is taken of the field and of d. -/
structure Cv (n : Nat) [NeZero n] (d s : Fin n) : Prop where
  prime : Prime n
  root : s * s = -1
  nosq : ∀ t, t * t ≠ d
  two : (2 : Fin n) ≠ 0

def On (d : Fin n) (p : Pt n) : Prop := p.y * p.y - p.x * p.x = 1 + d * p.x * p.x * p.y * p.y

/-- The product of all four coordinates, and d. -/
def ee (d : Fin n) (p q : Pt n) : Fin n := d * p.x * q.x * p.y * q.y

def padd (d : Fin n) (p q : Pt n) : Pt n := ⟨(p.x * q.y + p.y * q.x) * inv (1 + ee d p q), (p.y * q.y + p.x * q.x) * inv (1 - ee d p q)⟩
def pzero : Pt n := ⟨0, 1⟩
def pneg (p : Pt n) : Pt n := ⟨-p.x, p.y⟩

theorem sq_contra {d s : Fin n} (hc : Cv n d s) (u w : Fin n) (h : u * u = d * (w * w)) : w = 0 := by
  apply Classical.byContradiction
  intro hw
  have hi := mul_inv hc.prime w hw
  refine hc.nosq (u * inv w) ?_
  have e1 : u * inv w * (u * inv w) = u * u * (inv w * inv w) := by grind
  rw [e1, h]
  have e2 : d * (w * w) * (inv w * inv w) = d * (w * inv w) * (w * inv w) := by grind
  rw [e2, hi]; grind

/-- The sum is defined everywhere. -/
theorem complete {d s : Fin n} (hc : Cv n d s) {p q : Pt n} (hp : On d p) (hq : On d q) : ee d p q * ee d p q ≠ 1 := by
  intro he
  obtain ⟨x1, y1⟩ := p
  obtain ⟨x2, y2⟩ := q
  simp only [On, ee] at *
  generalize hE : d * x1 * x2 * y1 * y2 = e at he
  have hs := hc.root
  have hne : e ≠ 0 := fun h => by
    rw [h] at he
    exact one_ne_zero hc.prime (by rw [← he]; grind)
  have k1 : (s * x1 + e * y1) * (s * x1 + e * y1) = d * ((x1 * y1 * (s * x2 + y2)) * (x1 * y1 * (s * x2 + y2))) := by grind
  have k2 : (s * x1 - e * y1) * (s * x1 - e * y1) = d * ((x1 * y1 * (s * x2 - y2)) * (x1 * y1 * (s * x2 - y2))) := by grind
  have w1 := sq_contra hc _ _ k1
  have w2 := sq_contra hc _ _ k2
  have hxy : x1 * y1 ≠ 0 := fun h => hne (by rw [← hE]; grind)
  have v1 := (mul_zero_or hc.prime _ _ w1).resolve_left hxy
  have v2 := (mul_zero_or hc.prime _ _ w2).resolve_left hxy
  have v3 : 2 * y2 = 0 := by grind
  have v4 := (mul_zero_or hc.prime _ _ v3).resolve_left hc.two
  exact hne (by rw [← hE, v4]; grind)

theorem den_ne {d s : Fin n} (hc : Cv n d s) {p q : Pt n} (hp : On d p) (hq : On d q) : 1 + ee d p q ≠ 0 ∧ 1 - ee d p q ≠ 0 := by
  have h := complete hc hp hq
  generalize ee d p q = e at h
  constructor <;> intro h1 <;> apply h
  · have : e = -1 := by grind
    rw [this]; grind
  · have : e = 1 := by grind
    rw [this]; grind

theorem padd_x {d s : Fin n} (hc : Cv n d s) {p q : Pt n} (hp : On d p) (hq : On d q) : (padd d p q).x * (1 + ee d p q) = p.x * q.y + p.y * q.x := by
  have hi := mul_inv hc.prime _ (den_ne hc hp hq).1
  simp only [padd]
  generalize 1 + ee d p q = e at *
  grind
theorem padd_y {d s : Fin n} (hc : Cv n d s) {p q : Pt n} (hp : On d p) (hq : On d q) : (padd d p q).y * (1 - ee d p q) = p.y * q.y + p.x * q.x := by
  have hi := mul_inv hc.prime _ (den_ne hc hp hq).2
  simp only [padd]
  generalize 1 - ee d p q = e at *
  grind

theorem cancel (hp : Prime n) {x y z : Fin n} (hz : z ≠ 0) (h : x * z = y * z) : x = y := by
  have : (x - y) * z = 0 := by grind
  have := (mul_zero_or hp _ _ this).resolve_right hz
  grind

theorem mul_ne (hp : Prime n) {x y : Fin n} (hx : x ≠ 0) (hy : y ≠ 0) : x * y ≠ 0 := fun h => (mul_zero_or hp _ _ h).elim hx hy

theorem close_id (d x1 y1 x2 y2 : Fin n) (h1 : y1*y1 - x1*x1 = 1 + d*x1*x1*y1*y1) (h2 : y2*y2 - x2*x2 = 1 + d*x2*x2*y2*y2) :
    (y1*y2 + x1*x2)*(y1*y2 + x1*x2)*((1+d*x1*x2*y1*y2)*(1+d*x1*x2*y1*y2)) - (x1*y2+y1*x2)*(x1*y2+y1*x2)*((1-d*x1*x2*y1*y2)*(1-d*x1*x2*y1*y2)) =
    (1-d*x1*x2*y1*y2)*(1+d*x1*x2*y1*y2)*((1-d*x1*x2*y1*y2)*(1+d*x1*x2*y1*y2)) + d*((x1*y2+y1*x2)*(x1*y2+y1*x2))*((y1*y2+x1*x2)*(y1*y2+x1*x2)) := by
  grind

theorem close_fin (d e X Y : Fin n) (key : Y*(1-e)*(Y*(1-e))*((1+e)*(1+e)) - X*(1+e)*(X*(1+e))*((1-e)*(1-e)) = (1-e)*(1+e)*((1-e)*(1+e)) + d*(X*(1+e)*(X*(1+e)))*(Y*(1-e)*(Y*(1-e)))) :
    (Y*Y - X*X) * ((1+e)*(1+e)*((1-e)*(1-e))) = (1 + d*X*X*Y*Y) * ((1+e)*(1+e)*((1-e)*(1-e))) := by grind

/-- Sums of points are points. -/
theorem on_padd {d s : Fin n} (hc : Cv n d s) {p q : Pt n} (hp : On d p) (hq : On d q) : On d (padd d p q) := by
  have hx := padd_x hc hp hq
  have hy := padd_y hc hp hq
  obtain ⟨n1, n2⟩ := den_ne hc hp hq
  have key := close_id d p.x p.y q.x q.y hp hq
  unfold On
  generalize (padd d p q).x = X at *
  generalize (padd d p q).y = Y at *
  have he : ee d p q = d*p.x*q.x*p.y*q.y := rfl
  rw [← he, ← hx, ← hy] at key
  generalize ee d p q = e at *
  have h1 := mul_ne hc.prime (mul_ne hc.prime n1 n1) (mul_ne hc.prime n2 n2)
  exact cancel hc.prime h1 (close_fin d e X Y key)

theorem on_zero (d : Fin n) : On d pzero := by unfold On pzero; grind
theorem on_neg {d : Fin n} {p : Pt n} (hp : On d p) : On d (pneg p) := by unfold On pneg at *; grind

theorem padd_comm (d : Fin n) (p q : Pt n) : padd d p q = padd d q p := by
  have he : ee d p q = ee d q p := by unfold ee; grind
  unfold padd
  rw [he]
  apply Pt.eq
  · show _ * _ = _ * _
    congr 1
    grind
  · show _ * _ = _ * _
    congr 1
    grind

theorem padd_zero {d s : Fin n} (hc : Cv n d s) {p : Pt n} (hp : On d p) : padd d p pzero = p := by
  have hx := padd_x hc hp (on_zero d)
  have hy := padd_y hc hp (on_zero d)
  have he : ee d p pzero = 0 := by unfold ee pzero; grind
  rw [he] at hx hy
  simp only [pzero] at hx hy ⊢
  apply Pt.eq
  · grind
  · grind

theorem neg_id1 (d x y : Fin n) (h : y*y - x*x = 1 + d*x*x*y*y) : y*y + x*(-x) = 1 - d*x*(-x)*y*y := by grind

theorem padd_neg {d s : Fin n} (hc : Cv n d s) {p : Pt n} (hp : On d p) : padd d p (pneg p) = pzero := by
  have hx := padd_x hc hp (on_neg hp)
  have hy := padd_y hc hp (on_neg hp)
  obtain ⟨n1, n2⟩ := den_ne hc hp (on_neg hp)
  apply Pt.eq
  · refine cancel hc.prime n1 ?_
    rw [hx]; simp only [pneg, pzero]; grind
  · refine cancel hc.prime n2 ?_
    rw [hy]
    have := neg_id1 d p.x p.y hp
    simp only [pneg, pzero, ee]
    rw [this]; grind

theorem assoc_x (d x1 y1 x2 y2 x3 y3 : Fin n) (h1 : d*x1*x1*y1*y1 = y1*y1 - x1*x1 - 1) (h2 : d*x2*x2*y2*y2 = y2*y2 - x2*x2 - 1) (h3 : d*x3*x3*y3*y3 = y3*y3 - x3*x3 - 1) :
  ((x1*y2+y1*x2)*(1-d*x1*x2*y1*y2)*y3 + (y1*y2+x1*x2)*(1+d*x1*x2*y1*y2)*x3) * ((1-d*x2*x3*y2*y3)*(1+d*x2*x3*y2*y3) + d*x1*y1*(x2*y3+y2*x3)*(y2*y3+x2*x3))
  = (x1*(y2*y3+x2*x3)*(1+d*x2*x3*y2*y3) + y1*(x2*y3+y2*x3)*(1-d*x2*x3*y2*y3)) * ((1-d*x1*x2*y1*y2)*(1+d*x1*x2*y1*y2) + d*(x1*y2+y1*x2)*(y1*y2+x1*x2)*x3*y3) := by
  grind
theorem assoc_y (d x1 y1 x2 y2 x3 y3 : Fin n) (h1 : d*x1*x1*y1*y1 = y1*y1 - x1*x1 - 1) (h2 : d*x2*x2*y2*y2 = y2*y2 - x2*x2 - 1) (h3 : d*x3*x3*y3*y3 = y3*y3 - x3*x3 - 1) :
  ((y1*y2+x1*x2)*(1+d*x1*x2*y1*y2)*y3 + (x1*y2+y1*x2)*(1-d*x1*x2*y1*y2)*x3) * ((1-d*x2*x3*y2*y3)*(1+d*x2*x3*y2*y3) - d*x1*y1*(x2*y3+y2*x3)*(y2*y3+x2*x3))
  = (y1*(y2*y3+x2*x3)*(1+d*x2*x3*y2*y3) + x1*(x2*y3+y2*x3)*(1-d*x2*x3*y2*y3)) * ((1-d*x1*x2*y1*y2)*(1+d*x1*x2*y1*y2) - d*(x1*y2+y1*x2)*(y1*y2+x1*x2)*x3*y3) := by
  grind

end

theorem ee_def {n : Nat} (d : Fin n) (p q : Pt n) : ee d p q = d * p.x * q.x * p.y * q.y := rfl

section
variable {n : Nat} [NeZero n]

theorem as_fin_x (d X Y x3 y3 e12 L A B : Fin n) (hX : X * (1 + e12) = A) (hY : Y * (1 - e12) = B) (hL : L * (1 + d*X*x3*Y*y3) = X*y3 + Y*x3) :
    L * ((1-e12)*(1+e12) + d*A*B*x3*y3) = A*(1-e12)*y3 + B*(1+e12)*x3 := by
  subst hX; subst hY
  have e1 : L * ((1-e12)*(1+e12) + d*(X*(1+e12))*(Y*(1-e12))*x3*y3) = (L * (1 + d*X*x3*Y*y3)) * ((1-e12)*(1+e12)) := by grind
  rw [e1, hL]; grind
theorem as_fin_y (d X Y x3 y3 e12 L A B : Fin n) (hX : X * (1 + e12) = A) (hY : Y * (1 - e12) = B) (hL : L * (1 - d*X*x3*Y*y3) = Y*y3 + X*x3) :
    L * ((1-e12)*(1+e12) - d*A*B*x3*y3) = B*(1+e12)*y3 + A*(1-e12)*x3 := by
  subst hX; subst hY
  have e1 : L * ((1-e12)*(1+e12) - d*(X*(1+e12))*(Y*(1-e12))*x3*y3) = (L * (1 - d*X*x3*Y*y3)) * ((1-e12)*(1+e12)) := by grind
  rw [e1, hL]; grind
theorem den_fin (d X Y x3 y3 e12 A B : Fin n) (hX : X * (1 + e12) = A) (hY : Y * (1 - e12) = B) :
    (1-e12)*(1+e12) + d*A*B*x3*y3 = (1-e12)*(1+e12)*(1 + d*X*x3*Y*y3) ∧ (1-e12)*(1+e12) - d*A*B*x3*y3 = (1-e12)*(1+e12)*(1 - d*X*x3*Y*y3) := by
  subst hX; subst hY
  constructor <;> grind
theorem curve_eq {d : Fin n} {p : Pt n} (h : On d p) : d*p.x*p.x*p.y*p.y = p.y*p.y - p.x*p.x - 1 := by
  unfold On at h
  rw [h]; grind
theorem cross (hp : Prime n) {L R N1 N2 D1 D2 : Fin n} (h1 : L * D1 = N1) (h2 : R * D2 = N2) (h : N1 * D2 = N2 * D1) (n1 : D1 ≠ 0) (n2 : D2 ≠ 0) : L = R := by
  refine cancel hp (mul_ne hp n1 n2) ?_
  subst h1; subst h2
  grind

/-- **Sums of points may be put together in any way.** -/
theorem padd_assoc {d s : Fin n} (hc : Cv n d s) {p q r : Pt n} (hp : On d p) (hq : On d q) (hr : On d r) : padd d (padd d p q) r = padd d p (padd d q r) := by
  have hpq := on_padd hc hp hq
  have hqr := on_padd hc hq hr
  have ax := padd_x hc hp hq
  have ay := padd_y hc hp hq
  have bx := padd_x hc hq hr
  have by' := padd_y hc hq hr
  have Lx := padd_x hc hpq hr
  have Ly := padd_y hc hpq hr
  have Rx := padd_x hc hp hqr
  have Ry := padd_y hc hp hqr
  obtain ⟨a1, a2⟩ := den_ne hc hp hq
  obtain ⟨b1, b2⟩ := den_ne hc hq hr
  obtain ⟨l1, l2⟩ := den_ne hc hpq hr
  obtain ⟨r1, r2⟩ := den_ne hc hp hqr
  have c1 := curve_eq hp
  have c2 := curve_eq hq
  have c3 := curve_eq hr
  have ix := assoc_x d p.x p.y q.x q.y r.x r.y c1 c2 c3
  have iy := assoc_y d p.x p.y q.x q.y r.x r.y c1 c2 c3
  rw [ee_def d (padd d p q) r] at Lx Ly l1 l2
  rw [ee_def d p (padd d q r)] at Rx Ry r1 r2
  rw [ee_def d p q] at ax ay a1 a2
  rw [ee_def d q r] at bx by' b1 b2
  have dl := den_fin d _ _ r.x r.y _ _ _ ax ay
  have dr := den_fin d _ _ p.x p.y _ _ _ bx by'
  have fLx := as_fin_x d _ _ r.x r.y _ _ _ _ ax ay Lx
  have fLy := as_fin_y d _ _ r.x r.y _ _ _ _ ax ay Ly
  have e1 : d * (padd d q r).x * p.x * (padd d q r).y * p.y = d * p.x * (padd d q r).x * p.y * (padd d q r).y := by grind
  have Rx' : (padd d p (padd d q r)).x * (1 + d * (padd d q r).x * p.x * (padd d q r).y * p.y) = (padd d q r).x * p.y + (padd d q r).y * p.x := by rw [e1, Rx]; grind
  have Ry' : (padd d p (padd d q r)).y * (1 - d * (padd d q r).x * p.x * (padd d q r).y * p.y) = (padd d q r).y * p.y + (padd d q r).x * p.x := by rw [e1, Ry]; grind
  have fRx := as_fin_x d _ _ p.x p.y _ _ _ _ bx by' Rx'
  have fRy := as_fin_y d _ _ p.x p.y _ _ _ _ bx by' Ry'
  rw [e1] at dr
  apply Pt.eq
  · refine cross hc.prime fLx fRx ?_ ?_ ?_
    · clear fLx fRx fLy fRy dl dr Rx' Ry' e1 Lx Ly Rx Ry ax ay bx by' iy hpq hqr a1 a2 b1 b2 l1 l2 r1 r2 c1 c2 c3
      have := ix
      grind
    · rw [dl.1]; exact mul_ne hc.prime (mul_ne hc.prime a2 a1) l1
    · rw [dr.1]; exact mul_ne hc.prime (mul_ne hc.prime b2 b1) r1
  · refine cross hc.prime fLy fRy ?_ ?_ ?_
    · clear fLx fRx fLy fRy dl dr Rx' Ry' e1 Lx Ly Rx Ry ax ay bx by' ix hpq hqr a1 a2 b1 b2 l1 l2 r1 r2 c1 c2 c3
      have := iy
      grind
    · rw [dl.2]; exact mul_ne hc.prime (mul_ne hc.prime a2 a1) l2
    · rw [dr.2]; exact mul_ne hc.prime (mul_ne hc.prime b2 b1) r2
end
end Go.Nt

/- Points, so many times; how many points there are. No program in sight. -/
namespace Go.Nt

instance {n : Nat} : DecidableEq (Pt n) := fun p q =>
  match decEq p.x q.x, decEq p.y q.y with
  | isTrue h1, isTrue h2 => isTrue (Pt.eq h1 h2)
  | isFalse h, _ => isFalse fun e => h (by rw [e])
  | _, isFalse h => isFalse fun e => h (by rw [e])

theorem filter_len {α : Type} (f : α → Bool) : ∀ l : List α, l.length = (l.filter f).length + (l.filter fun x => !f x).length
  | [] => rfl
  | a :: l => by
    have := filter_len f l
    cases h : f a <;> simp [h] <;> omega

theorem nodup_len {α : Type} [DecidableEq α] : ∀ (l l' : List α), l.Nodup → (∀ x ∈ l, x ∈ l') → l.length ≤ l'.length
  | [], _, _, _ => Nat.zero_le _
  | a :: l, l', hn, hs => by
    have ha := hs a (by simp)
    obtain ⟨hna, hn'⟩ := List.nodup_cons.1 hn
    have := nodup_len l (l'.erase a) hn' (fun z hz => by
      have hne : z ≠ a := fun e => hna (by rw [← e]; exact hz)
      exact (List.mem_erase_of_ne hne).2 (hs z (by simp [hz])))
    rw [List.length_erase_of_mem ha] at this
    have := List.length_pos_of_mem ha
    simp only [List.length_cons]
    omega

section
variable {n : Nat} [NeZero n]

def smul (d : Fin n) : Nat → Pt n → Pt n
  | 0, _ => pzero
  | k + 1, p => padd d p (smul d k p)

section
variable {d s : Fin n} (hc : Cv n d s)
include hc

theorem on_smul {p : Pt n} (hp : On d p) : ∀ k, On d (smul d k p)
  | 0 => on_zero d
  | k + 1 => on_padd hc hp (on_smul hp k)

theorem zero_padd {p : Pt n} (hp : On d p) : padd d pzero p = p := by rw [padd_comm, padd_zero hc hp]

theorem smul_one {p : Pt n} (hp : On d p) : smul d 1 p = p := padd_zero hc hp

theorem smul_add {p : Pt n} (hp : On d p) (a b : Nat) : smul d (a + b) p = padd d (smul d a p) (smul d b p) := by
  induction a with
  | zero => rw [Nat.zero_add]; exact (zero_padd hc (on_smul hc hp b)).symm
  | succ a ih =>
    rw [show a + 1 + b = (a + b) + 1 by omega]
    show padd d p (smul d (a + b) p) = padd d (padd d p (smul d a p)) (smul d b p)
    rw [ih, padd_assoc hc hp (on_smul hc hp a) (on_smul hc hp b)]

theorem smul_zero (k : Nat) : smul d k (pzero : Pt n) = pzero := by
  induction k with
  | zero => rfl
  | succ k ih => show padd d pzero (smul d k pzero) = pzero; rw [ih]; exact padd_zero hc (on_zero d)

theorem smul_mul {p : Pt n} (hp : On d p) (a b : Nat) : smul d (a * b) p = smul d a (smul d b p) := by
  induction a with
  | zero => rw [Nat.zero_mul]; rfl
  | succ a ih =>
    rw [Nat.succ_mul, Nat.add_comm, smul_add hc hp]
    show _ = padd d (smul d b p) (smul d a (smul d b p))
    rw [ih]

/-- Four points: the inner two may change places. -/
theorem padd_swap {p q r t : Pt n} (hp : On d p) (hq : On d q) (hr : On d r) (ht : On d t) : padd d (padd d p q) (padd d r t) = padd d (padd d p r) (padd d q t) := by
  rw [padd_assoc hc hp hq (on_padd hc hr ht), ← padd_assoc hc hq hr ht, padd_comm d q r, padd_assoc hc hr hq ht, ← padd_assoc hc hp hr (on_padd hc hq ht)]

theorem smul_padd {p q : Pt n} (hp : On d p) (hq : On d q) (k : Nat) : smul d k (padd d p q) = padd d (smul d k p) (smul d k q) := by
  induction k with
  | zero => exact (padd_zero hc (on_zero d)).symm
  | succ k ih =>
    show padd d (padd d p q) (smul d k (padd d p q)) = padd d (padd d p (smul d k p)) (padd d q (smul d k q))
    rw [ih]
    exact padd_swap hc hp hq (on_smul hc hp k) (on_smul hc hq k)

theorem neg_unique {p q : Pt n} (hp : On d p) (hq : On d q) (h : padd d p q = pzero) : q = pneg p := by
  have h1 : padd d (pneg p) (padd d p q) = q := by
    rw [← padd_assoc hc (on_neg hp) hp hq, padd_comm d (pneg p) p, padd_neg hc hp, zero_padd hc hq]
  rw [← h1, h, padd_zero hc (on_neg hp)]

theorem pneg_padd {p q : Pt n} (hp : On d p) (hq : On d q) : pneg (padd d p q) = padd d (pneg p) (pneg q) := by
  refine (neg_unique hc (on_padd hc hp hq) (on_padd hc (on_neg hp) (on_neg hq)) ?_).symm
  rw [padd_swap hc hp hq (on_neg hp) (on_neg hq), padd_neg hc hp, padd_neg hc hq]
  exact padd_zero hc (on_zero d)

theorem pneg_zero : pneg (pzero : Pt n) = pzero := by
  have := neg_unique hc (p := (pzero : Pt n)) (q := pzero) (on_zero d) (on_zero d) (padd_zero hc (on_zero d))
  exact this.symm

theorem smul_neg {p : Pt n} (hp : On d p) (k : Nat) : smul d k (pneg p) = pneg (smul d k p) := by
  induction k with
  | zero => exact (pneg_zero hc).symm
  | succ k ih =>
    show padd d (pneg p) (smul d k (pneg p)) = pneg (padd d p (smul d k p))
    rw [ih, pneg_padd hc hp (on_smul hc hp k)]

theorem pcancel {p q r : Pt n} (hp : On d p) (hq : On d q) (hr : On d r) (h : padd d r p = padd d r q) : p = q := by
  have e : ∀ {t : Pt n}, On d t → padd d (pneg r) (padd d r t) = t := fun {t} ht => by
    rw [← padd_assoc hc (on_neg hr) hr ht, padd_comm d (pneg r) r, padd_neg hc hr, zero_padd hc ht]
  rw [← e hp, h, e hq]

theorem smul_gcd {p : Pt n} (hp : On d p) (a b : Nat) : smul d a p = pzero → smul d b p = pzero → smul d (Nat.gcd a b) p = pzero := by
  induction a, b using Nat.gcd.induction with
  | H0 b => intro _ h; rw [Nat.gcd_zero_left]; exact h
  | H1 a b hpos ih =>
    intro ha hb
    rw [Nat.gcd_rec]
    refine ih ?_ ha
    have h1 : smul d b p = padd d (smul d (a * (b / a)) p) (smul d (b % a) p) := by rw [← smul_add hc hp, Nat.div_add_mod]
    have h2 : smul d (a * (b / a)) p = pzero := by rw [Nat.mul_comm, smul_mul hc hp, ha, smul_zero hc]
    rw [hb, h2, zero_padd hc (on_smul hc hp _)] at h1
    exact h1.symm

/-! ### How many -/
/-- An element's order divides how many there are, of whatever adding it leaves alone. -/
theorem order_dvd {g : Pt n} (hg : On d g) {m : Nat} (hm : 0 < m) (h0 : smul d m g = pzero) (hmin : ∀ i, 0 < i → i < m → smul d i g ≠ pzero) :
    ∀ (k : Nat) (S : List (Pt n)), S.length = k → S.Nodup → (∀ p ∈ S, On d p) → (∀ p ∈ S, padd d g p ∈ S) → m ∣ S.length := by
  intro k
  induction k using Nat.strongRecOn with
  | _ k ih =>
    intro S hk hnd hon hcl
    cases S with
    | nil => exact Nat.dvd_zero m
    | cons x S0 =>
      generalize hS : x :: S0 = S at *
      have hx : x ∈ S := by rw [← hS]; simp
      have hxo := hon x hx
      have orb : ∀ i, padd d (smul d i g) x ∈ S := by
        intro i
        induction i with
        | zero => show padd d pzero x ∈ S; rw [zero_padd hc hxo]; exact hx
        | succ i ih2 =>
          have : padd d (smul d (i + 1) g) x = padd d g (padd d (smul d i g) x) := padd_assoc hc hg (on_smul hc hg i) hxo
          rw [this]; exact hcl _ ih2
      let O := (List.range m).map fun i => padd d (smul d i g) x
      have hO : ∀ p, p ∈ O ↔ ∃ i, i < m ∧ padd d (smul d i g) x = p := by
        intro p; simp [O]
      have hOn : O.Nodup := by
        show ((List.range m).map _).Nodup
        rw [List.Nodup, List.pairwise_map]
        refine List.Pairwise.imp_of_mem (fun {i j} hi hj hne he => hne ?_) (List.nodup_range (n := m))
        have hi := List.mem_range.1 hi
        have hj := List.mem_range.1 hj
        have he2 : smul d i g = smul d j g := by
          refine pcancel hc (on_smul hc hg i) (on_smul hc hg j) hxo ?_
          rw [padd_comm d x, padd_comm d x]; exact he
        have key : ∀ i j, i < j → j < m → smul d i g = smul d j g → False := by
          intro i j hij hj he
          refine hmin (j - i) (by omega) (by omega) ?_
          have h1 : smul d j g = padd d (smul d i g) (smul d (j - i) g) := by rw [← smul_add hc hg]; congr 1; omega
          have h2 : padd d (smul d i g) (smul d (j - i) g) = padd d (smul d i g) pzero := by rw [← h1, ← he, padd_zero hc (on_smul hc hg i)]
          exact pcancel hc (on_smul hc hg _) (on_zero d) (on_smul hc hg i) h2
        rcases Nat.lt_trichotomy i j with h | h | h
        · exact (key i j h hj he2).elim
        · exact h
        · exact (key j i h hi he2.symm).elim
      let S' := S.filter fun p => !decide (p ∈ O)
      have hlen : S.length = m + S'.length := by
        have h1 : (S.filter fun p => decide (p ∈ O)).Perm O := by
          refine perm_of_nodup (hnd.filter _) (fun p hp => by simpa using (List.mem_filter.1 hp).2) ?_
          have h2 : ∀ p ∈ O, p ∈ S.filter fun p => decide (p ∈ O) := fun p hp => by
            rw [List.mem_filter]
            obtain ⟨i, -, rfl⟩ := (hO p).1 hp
            exact ⟨orb i, by simpa using hp⟩
          exact nodup_len _ _ hOn h2
        have h4 := filter_len (fun p => decide (p ∈ O)) S
        rw [h1.length_eq] at h4
        have h5 : O.length = m := by show ((List.range m).map _).length = m; simp
        rw [h5] at h4
        exact h4
      have hdv : m ∣ S'.length := by
        refine ih S'.length (by omega) S' rfl (hnd.filter _) (fun p hp => hon p (List.mem_filter.1 hp).1) (fun p hp => ?_)
        obtain ⟨hp1, hp2⟩ := List.mem_filter.1 hp
        rw [List.mem_filter]
        refine ⟨hcl p hp1, ?_⟩
        simp only [Bool.not_eq_true', decide_eq_false_iff_not] at hp2 ⊢
        intro hmem
        apply hp2
        obtain ⟨i, hi, he⟩ := (hO _).1 hmem
        have hpo := hon p hp1
        cases i with
        | zero =>
          refine (hO p).2 ⟨m - 1, by omega, ?_⟩
          refine pcancel hc (on_padd hc (on_smul hc hg _) hxo) hpo hg ?_
          rw [← padd_assoc hc hg (on_smul hc hg _) hxo]
          show padd d (smul d (m - 1 + 1) g) x = _
          rw [show m - 1 + 1 = m by omega, h0]
          exact he
        | succ i =>
          refine (hO p).2 ⟨i, by omega, ?_⟩
          refine pcancel hc (on_padd hc (on_smul hc hg _) hxo) hpo hg ?_
          rw [← padd_assoc hc hg (on_smul hc hg _) hxo]
          exact he
      rw [hlen]
      exact Nat.dvd_add (Nat.dvd_refl m) hdv

end

/-! ### So many times as there are points: none -/
def psum (d : Fin n) : List (Pt n) → Pt n
  | [] => pzero
  | p :: l => padd d p (psum d l)

section
variable {d s : Fin n} (hc : Cv n d s)
include hc

theorem on_psum : ∀ l : List (Pt n), (∀ p ∈ l, On d p) → On d (psum d l)
  | [], _ => on_zero d
  | p :: l, h => on_padd hc (h p (by simp)) (on_psum l fun q hq => h q (by simp [hq]))

theorem psum_perm {l m : List (Pt n)} (h : l.Perm m) : (∀ p ∈ l, On d p) → psum d l = psum d m := by
  induction h with
  | nil => intro _; rfl
  | cons x _ ih => intro ho; simp only [psum]; rw [ih fun p hp => ho p (by simp [hp])]
  | swap x y l =>
    intro ho
    have hx := ho x (by simp)
    have hy := ho y (by simp)
    have hl := on_psum hc l fun p hp => ho p (by simp [hp])
    simp only [psum]
    rw [← padd_assoc hc hy hx hl, padd_comm d y x, padd_assoc hc hx hy hl]
  | trans h1 _ ih1 ih2 => intro ho; rw [ih1 ho, ih2 fun p hp => ho p (h1.mem_iff.2 hp)]

theorem psum_map {g : Pt n} (hg : On d g) : ∀ l : List (Pt n), (∀ p ∈ l, On d p) → psum d (l.map fun p => padd d g p) = padd d (smul d l.length g) (psum d l)
  | [], _ => (padd_zero hc (on_zero d)).symm
  | p :: l, h => by
    have hp := h p (by simp)
    have hl := fun q hq => h q (List.mem_cons_of_mem p hq)
    simp only [List.map_cons, psum, List.length_cons]
    rw [psum_map hg l hl]
    show _ = padd d (padd d g (smul d l.length g)) (padd d p (psum d l))
    rw [padd_swap hc hg (on_smul hc hg _) hp (on_psum hc l hl)]

theorem smul_all (S : List (Pt n)) (hnd : S.Nodup) (hall : ∀ p, p ∈ S ↔ On d p) {g : Pt n} (hg : On d g) : smul d S.length g = pzero := by
  have hon : ∀ p ∈ S, On d p := fun p hp => (hall p).1 hp
  have hperm : (S.map fun p => padd d g p).Perm S := by
    refine perm_of_nodup ?_ ?_ (by simp)
    · rw [List.Nodup, List.pairwise_map]
      refine List.Pairwise.imp_of_mem (fun {x y} hx hy hne he => hne (pcancel hc (hon x hx) (hon y hy) hg he)) hnd
    · intro p hp
      obtain ⟨q, hq, rfl⟩ := List.mem_map.1 hp
      exact (hall _).2 (on_padd hc hg (hon q hq))
  have h1 := psum_map hc hg S hon
  have h2 := psum_perm hc hperm (fun p hp => by
    obtain ⟨q, hq, rfl⟩ := List.mem_map.1 hp
    exact on_padd hc hg (hon q hq))
  rw [h2] at h1
  have hs := on_psum hc S hon
  refine pcancel hc (on_smul hc hg _) (on_zero d) hs ?_
  rw [padd_comm d (psum d S), ← h1, padd_zero hc hs]
end

/-- All points. -/
def rowY (d y : Fin n) : List (Fin n) := (List.finRange n).filter fun x => decide (y * y - x * x = 1 + d * x * x * y * y)
def allPts (d : Fin n) : List (Pt n) := (List.finRange n).flatMap fun y => (rowY d y).map fun x => ⟨x, y⟩

theorem mem_allPts (d : Fin n) (p : Pt n) : p ∈ allPts d ↔ On d p := by
  simp only [allPts, List.mem_flatMap, List.mem_map, rowY, List.mem_filter, List.mem_finRange, true_and, decide_eq_true_eq]
  constructor
  · rintro ⟨y, x, h, rfl⟩; exact h
  · intro h; exact ⟨p.y, p.x, h, rfl⟩

theorem nodup_flat {α β : Type} (f : α → List β) (g : β → α) (hg : ∀ a, ∀ b ∈ f a, g b = a) (hf : ∀ a, (f a).Nodup) : ∀ l : List α, l.Nodup → (l.flatMap f).Nodup
  | [], _ => by simp
  | a :: l, h => by
    obtain ⟨h1, h2⟩ := List.nodup_cons.1 h
    rw [List.flatMap_cons, List.nodup_append]
    refine ⟨hf a, nodup_flat f g hg hf l h2, fun b hb c hc e => ?_⟩
    subst e
    obtain ⟨a', ha', hb'⟩ := List.mem_flatMap.1 hc
    have e1 := hg a b hb
    have e2 := hg a' b hb'
    exact h1 (by rw [← e1, e2]; exact ha')

theorem nodup_allPts (d : Fin n) : (allPts d).Nodup := by
  refine nodup_flat _ (fun p => p.y) (fun y p hp => ?_) (fun y => ?_) _ (List.nodup_finRange n)
  · obtain ⟨x, -, rfl⟩ := List.mem_map.1 hp; rfl
  · rw [List.Nodup, List.pairwise_map]
    have h : (rowY d y).Nodup := (List.nodup_finRange n).filter _
    exact h.imp fun hne e => hne (by injection e)

theorem len_flat {α β : Type} (f : α → List β) (hf : ∀ a, (f a).length ≤ 2) : ∀ l : List α, (l.flatMap f).length ≤ 2 * l.length
  | [] => by simp
  | a :: l => by
    have h1 := hf a
    have h2 := len_flat f hf l
    rw [List.flatMap_cons, List.length_append, List.length_cons]
    omega

theorem row_two {d s : Fin n} (hc : Cv n d s) (y : Fin n) : (rowY d y).length ≤ 2 := by
  have hnd : (rowY d y).Nodup := (List.nodup_finRange n).filter _
  generalize hl : rowY d y = l at hnd
  have hmem : ∀ x ∈ l, y * y - x * x = 1 + d * x * x * y * y := fun x hx => by
    rw [← hl] at hx
    exact of_decide_eq_true (List.mem_filter.1 hx).2
  match l, hnd, hmem with
  | [], _, _ => simp
  | [_], _, _ => simp
  | [_, _], _, _ => simp
  | a :: b :: c :: l, hnd, hmem =>
    exfalso
    have ha := hmem a (by simp)
    have hb := hmem b (by simp)
    have hcc := hmem c (by simp)
    have hd : 1 + d * y * y ≠ 0 := by
      intro h
      have : (s * 1) * (s * 1) = d * (y * y) := by
        have := hc.root
        grind
      have h0 := sq_contra hc _ _ this
      rw [h0] at h
      exact one_ne_zero hc.prime (by rw [← h]; grind)
    have sq : ∀ u v : Fin n, y * y - u * u = 1 + d * u * u * y * y → y * y - v * v = 1 + d * v * v * y * y → u = v ∨ u = -v := by
      intro u v hu hv
      refine sq_eq hc.prime u v (cancel hc.prime hd ?_)
      grind
    have n1 : a ≠ b := fun e => by subst e; simp at hnd
    have n2 : a ≠ c := fun e => by subst e; simp at hnd
    have n3 : b ≠ c := fun e => by subst e; simp at hnd
    have e1 := (sq a b ha hb).resolve_left n1
    have e2 := (sq a c ha hcc).resolve_left n2
    exact n3 (by grind)

theorem len_allPts {d s : Fin n} (hc : Cv n d s) : (allPts d).length ≤ 2 * n := by
  have := len_flat (fun y => (rowY d y).map fun x => (⟨x, y⟩ : Pt n)) (fun y => by rw [List.length_map]; exact row_two hc y) (List.finRange n)
  rw [List.length_finRange] at this
  exact this

/-- **So many times eight times a prime: none, where a point has that prime as its order, one the order eight, and there is no room for twice as many points.** -/
theorem smul_eight {d s : Fin n} (hc : Cv n d s) {l : Nat} (hl : Prime l) (hl8 : Nat.gcd 8 l = 1) (hbig : 2 * n < 2 * (8 * l)) {g t : Pt n} (hg : On d g) (ht : On d t) (g0 : g ≠ pzero) (g1 : smul d l g = pzero) (t0 : smul d 4 t ≠ pzero) (t1 : smul d 8 t = pzero)
    {p : Pt n} (hp : On d p) : smul d l (smul d 8 p) = pzero := by
  have hcl : ∀ u, On d u → ∀ q ∈ allPts d, padd d u q ∈ allPts d := fun u hu q hq => (mem_allPts d _).2 (on_padd hc hu ((mem_allPts d q).1 hq))
  have hon : ∀ q ∈ allPts d, On d q := fun q hq => (mem_allPts d q).1 hq
  have d1 : l ∣ (allPts d).length := by
    refine order_dvd hc hg (by have := hl.1; omega) g1 (fun i h0 h1 he => g0 ?_) _ _ rfl (nodup_allPts d) hon (hcl g hg)
    have hn : ¬ l ∣ i := fun hd => by have := Nat.le_of_dvd h0 hd; omega
    have := smul_gcd hc hg l i g1 he
    rw [hl.coprime hn] at this
    rw [← smul_one hc hg]; exact this
  have d2 : 8 ∣ (allPts d).length := by
    refine order_dvd hc ht (by decide) t1 (fun i h0 h1 he => t0 ?_) _ _ rfl (nodup_allPts d) hon (hcl t ht)
    have hgc := smul_gcd hc ht 8 i t1 he
    have h4 : Nat.gcd 8 i ∣ 4 := by
      have : i = 1 ∨ i = 2 ∨ i = 3 ∨ i = 4 ∨ i = 5 ∨ i = 6 ∨ i = 7 := by omega
      rcases this with rfl | rfl | rfl | rfl | rfl | rfl | rfl <;> decide
    obtain ⟨c, hc'⟩ := h4
    rw [hc', Nat.mul_comm, smul_mul hc ht, hgc, smul_zero hc]
  have d3 : 8 * l ∣ (allPts d).length := Nat.Coprime.mul_dvd_of_dvd_of_dvd hl8 d2 d1
  have hle := len_allPts hc
  have hpos : 0 < (allPts d).length := List.length_pos_of_mem ((mem_allPts d pzero).2 (on_zero d))
  obtain ⟨c, hc'⟩ := d3
  have hc1 : c = 1 := by
    have h1 : c < 2 := by
      apply Classical.byContradiction
      intro h
      have : 8 * l * 2 ≤ 8 * l * c := Nat.mul_le_mul_left _ (by omega)
      omega
    have h2 : c ≠ 0 := fun e => by rw [e, Nat.mul_zero] at hc'; omega
    omega
  rw [hc1, Nat.mul_one] at hc'
  rw [← smul_mul hc hp, Nat.mul_comm, ← hc']
  exact smul_all hc _ (nodup_allPts d) (mem_allPts d) hp
end
end Go.Nt

/- Points as four numbers: x and y divided by z, and t, that is their product. No program in sight. -/
namespace Go.Nt

structure E4 (n : Nat) where
  x : Fin n
  y : Fin n
  z : Fin n
  t : Fin n

section
variable {n : Nat} [NeZero n]

def made (e f g h : Fin n) : E4 n := ⟨e * f, g * h, f * g, e * h⟩
def twice (a : E4 n) : E4 n :=
  let sum := a.x * a.x + a.y * a.y
  let less := a.y * a.y - a.x * a.x
  made ((a.x + a.y) * (a.x + a.y) - sum) (less - (a.z * a.z + a.z * a.z)) less (-sum)
def plus4 (d : Fin n) (a b : E4 n) : E4 n :=
  let l := (a.y - a.x) * (b.y - b.x)
  let m := (a.y + a.x) * (b.y + b.x)
  let t := d * (a.t * b.t) + d * (a.t * b.t)
  let z := a.z * b.z + a.z * b.z
  made (m - l) (z - t) (z + t) (m + l)

/-- Four numbers that are a point. -/
structure Rep (d : Fin n) (a : E4 n) (p : Pt n) : Prop where
  on : On d p
  z : a.z ≠ 0
  x : a.x = p.x * a.z
  y : a.y = p.y * a.z
  t : a.t = p.x * p.y * a.z

theorem rep_made {d s : Fin n} (hc : Cv n d s) {p : Pt n} (hp : On d p) {e f g h : Fin n} (hf : f ≠ 0) (hg : g ≠ 0) (he : e = p.x * g) (hh : h = p.y * f) : Rep d (made e f g h) p := by
  subst he; subst hh
  refine ⟨hp, mul_ne hc.prime hf hg, ?_, ?_, ?_⟩
  · show p.x * g * f = p.x * (f * g); grind
  · show g * (p.y * f) = p.y * (f * g); grind
  · show p.x * g * (p.y * f) = p.x * p.y * (f * g); grind

theorem tw_g (d X Y z : Fin n) (hp : d*X*X*Y*Y = Y*Y - X*X - 1) : Y*z*(Y*z) - X*z*(X*z) = z*z*(1 + d*X*X*Y*Y) := by grind
theorem tw_f (d X Y z : Fin n) (hp : d*X*X*Y*Y = Y*Y - X*X - 1) : Y*z*(Y*z) - X*z*(X*z) - (z*z + z*z) = -(z*z*(1 - d*X*X*Y*Y)) := by grind
theorem tw_e (d X Y U z : Fin n) (h : U * (1 + d*X*X*Y*Y) = X*Y + Y*X) : (X*z + Y*z)*(X*z + Y*z) - (X*z*(X*z) + Y*z*(Y*z)) = U * (z*z*(1 + d*X*X*Y*Y)) := by
  have : U * (z*z*(1 + d*X*X*Y*Y)) = z*z*(U * (1 + d*X*X*Y*Y)) := by grind
  rw [this, h]; grind
theorem tw_h (d X Y V z : Fin n) (h : V * (1 - d*X*X*Y*Y) = Y*Y + X*X) : -(X*z*(X*z) + Y*z*(Y*z)) = V * (-(z*z*(1 - d*X*X*Y*Y))) := by
  have : V * (-(z*z*(1 - d*X*X*Y*Y))) = -(z*z*(V * (1 - d*X*X*Y*Y))) := by grind
  rw [this, h]; grind

theorem neg_ne {x : Fin n} (h : x ≠ 0) : -x ≠ 0 := fun e => h (by grind)

theorem rep_twice {d s : Fin n} (hc : Cv n d s) {a : E4 n} {p : Pt n} (h : Rep d a p) : Rep d (twice a) (padd d p p) := by
  obtain ⟨hp, hz, hx, hy, -⟩ := h
  have c := curve_eq hp
  have ux := padd_x hc hp hp
  have uy := padd_y hc hp hp
  obtain ⟨n1, n2⟩ := den_ne hc hp hp
  rw [ee_def] at ux uy n1 n2
  have hzz := mul_ne hc.prime hz hz
  have e1 := tw_g d p.x p.y a.z c
  have e2 := tw_f d p.x p.y a.z c
  have e3 := tw_e d p.x p.y _ a.z ux
  have e4 := tw_h d p.x p.y _ a.z uy
  unfold twice
  rw [hx, hy]
  simp only
  rw [e2, e1, e3, e4]
  exact rep_made hc (on_padd hc hp hp) (neg_ne (mul_ne hc.prime hzz n2)) (mul_ne hc.prime hzz n1) rfl rfl

theorem pl_g (d X1 Y1 z1 X2 Y2 z2 : Fin n) : z1*z2 + z1*z2 + (d*(X1*Y1*z1*(X2*Y2*z2)) + d*(X1*Y1*z1*(X2*Y2*z2))) = 2*(z1*z2)*(1 + d*X1*X2*Y1*Y2) := by grind
theorem pl_f (d X1 Y1 z1 X2 Y2 z2 : Fin n) : z1*z2 + z1*z2 - (d*(X1*Y1*z1*(X2*Y2*z2)) + d*(X1*Y1*z1*(X2*Y2*z2))) = 2*(z1*z2)*(1 - d*X1*X2*Y1*Y2) := by grind
theorem pl_e (d X1 Y1 z1 X2 Y2 z2 U : Fin n) (h : U * (1 + d*X1*X2*Y1*Y2) = X1*Y2 + Y1*X2) :
    (Y1*z1 + X1*z1)*(Y2*z2 + X2*z2) - (Y1*z1 - X1*z1)*(Y2*z2 - X2*z2) = U * (2*(z1*z2)*(1 + d*X1*X2*Y1*Y2)) := by
  have : U * (2*(z1*z2)*(1 + d*X1*X2*Y1*Y2)) = 2*(z1*z2)*(U * (1 + d*X1*X2*Y1*Y2)) := by grind
  rw [this, h]; grind
theorem pl_h (d X1 Y1 z1 X2 Y2 z2 V : Fin n) (h : V * (1 - d*X1*X2*Y1*Y2) = Y1*Y2 + X1*X2) :
    (Y1*z1 + X1*z1)*(Y2*z2 + X2*z2) + (Y1*z1 - X1*z1)*(Y2*z2 - X2*z2) = V * (2*(z1*z2)*(1 - d*X1*X2*Y1*Y2)) := by
  have : V * (2*(z1*z2)*(1 - d*X1*X2*Y1*Y2)) = 2*(z1*z2)*(V * (1 - d*X1*X2*Y1*Y2)) := by grind
  rw [this, h]; grind

theorem rep_plus {d s : Fin n} (hc : Cv n d s) {a b : E4 n} {p q : Pt n} (h : Rep d a p) (h' : Rep d b q) : Rep d (plus4 d a b) (padd d p q) := by
  obtain ⟨hp, hz, hx, hy, ht⟩ := h
  obtain ⟨hq, hz', hx', hy', ht'⟩ := h'
  have ux := padd_x hc hp hq
  have uy := padd_y hc hp hq
  obtain ⟨n1, n2⟩ := den_ne hc hp hq
  rw [ee_def] at ux uy n1 n2
  have hzz := mul_ne hc.prime hc.two (mul_ne hc.prime hz hz')
  have e1 := pl_g d p.x p.y a.z q.x q.y b.z
  have e2 := pl_f d p.x p.y a.z q.x q.y b.z
  have e3 := pl_e d p.x p.y a.z q.x q.y b.z _ ux
  have e4 := pl_h d p.x p.y a.z q.x q.y b.z _ uy
  unfold plus4
  rw [hx, hy, ht, hx', hy', ht']
  simp only
  rw [e2, e1, e3, e4]
  exact rep_made hc (on_padd hc hp hq) (mul_ne hc.prime hzz n2) (mul_ne hc.prime hzz n1) rfl rfl

/-- The point that four numbers are. -/
def pt4 (a : E4 n) : Pt n := ⟨a.x * inv a.z, a.y * inv a.z⟩
theorem rep_pt {d s : Fin n} (hc : Cv n d s) {a : E4 n} {p : Pt n} (h : Rep d a p) : pt4 a = p := by
  have hi := mul_inv hc.prime _ h.z
  apply Pt.eq
  · show a.x * inv a.z = p.x; rw [h.x]; generalize a.z = z at *; grind
  · show a.y * inv a.z = p.y; rw [h.y]; generalize a.z = z at *; grind

theorem rep_of {d s : Fin n} (hc : Cv n d s) {p : Pt n} (hp : On d p) : Rep d ⟨p.x, p.y, 1, p.x * p.y⟩ p :=
  ⟨hp, one_ne_zero hc.prime, by show p.x = p.x * 1; grind, by show p.y = p.y * 1; grind, by show p.x * p.y = p.x * p.y * 1; grind⟩

theorem pt_eq_of_rep {d : Fin n} {a : E4 n} {p : Pt n} (hp : Prime n) (h : Rep d a p) {q : Pt n} (h1 : a.x = q.x * a.z) (h2 : a.y = q.y * a.z) : p = q := by
  apply Pt.eq
  · exact cancel hp h.z (by rw [← h.x, h1])
  · exact cancel hp h.z (by rw [← h.y, h2])
end
end Go.Nt

/- This curve: its number d has no root; the base point has the prime L as its order; a point has the order eight; so L times eight times any point is none. By evaluation. No program in sight. -/
namespace Go.Nt
set_option maxRecDepth 100000

section
variable {n : Nat} [NeZero n]

/-- As k a, with a evaluated ahead. -/
def fF {β : Type} (a : Fin n) (k : Fin n → β) : β := match a with
  | ⟨0, h⟩ => k ⟨0, h⟩
  | ⟨m + 1, h⟩ => k ⟨m + 1, h⟩
omit [NeZero n] in
theorem fF_eq {β : Type} (a : Fin n) (k : Fin n → β) : fF a k = k a := by
  obtain ⟨m, h⟩ := a
  cases m <;> rfl
def fE {β : Type} (a : E4 n) (k : E4 n → β) : β := fF a.x fun x => fF a.y fun y => fF a.z fun z => fF a.t fun t => k ⟨x, y, z, t⟩
omit [NeZero n] in
theorem fE_eq {β : Type} (a : E4 n) (k : E4 n → β) : fE a k = k a := by
  unfold fE
  rw [fF_eq, fF_eq, fF_eq, fF_eq]

/-- m times b, bit by bit; a is what the higher bits gave. -/
def runE {β : Type} (d : Fin n) (b : E4 n) (m : Nat) : Nat → E4 n → (E4 n → β) → β
  | 0, a, k => k a
  | i + 1, a, k => match Nat.beq (m / 2 ^ i % 2) 1 with
    | true => fE (twice a) fun c => fE (plus4 d c b) fun c => runE d b m i c k
    | false => fE (twice a) fun c => runE d b m i c k

theorem runE_ok {β : Type} {d s : Fin n} (hc : Cv n d s) {b : E4 n} {p : Pt n} (hb : Rep d b p) (m : Nat) (k : E4 n → β) : ∀ (i : Nat) (a : E4 n), Rep d a (smul d (m / 2 ^ i) p) → ∃ c, Rep d c (smul d m p) ∧ runE d b m i a k = k c
  | 0, a, h => ⟨a, by rw [Nat.pow_zero, Nat.div_one] at h; exact h, rfl⟩
  | i + 1, a, h => by
    have h2 := rep_twice hc h
    rw [← smul_add hc hb.on] at h2
    have e : m / 2 ^ i = m / 2 ^ (i + 1) + m / 2 ^ (i + 1) + m / 2 ^ i % 2 := by
      rw [Nat.pow_succ, ← Nat.div_div_eq_div_mul]; omega
    unfold runE
    split
    · rename_i hbit
      have hbit := Nat.eq_of_beq_eq_true hbit
      have h3 := rep_plus hc h2 hb
      rw [show padd d (smul d (m / 2 ^ (i + 1) + m / 2 ^ (i + 1)) p) p = padd d (smul d (m / 2 ^ (i + 1) + m / 2 ^ (i + 1)) p) (smul d 1 p) by rw [smul_one hc hb.on], ← smul_add hc hb.on, show m / 2 ^ (i + 1) + m / 2 ^ (i + 1) + 1 = m / 2 ^ i by omega] at h3
      simp only [fE_eq]
      exact runE_ok hc hb m k i _ h3
    · rename_i hbit
      have hbit : m / 2 ^ i % 2 = 0 := by
        have : ¬ m / 2 ^ i % 2 = 1 := fun he => by rw [he] at hbit; cases hbit
        omega
      rw [hbit, Nat.add_zero] at e
      rw [← e] at h2
      simp only [fE_eq]
      exact runE_ok hc hb m k i _ h2

def fst4 (p : Pt n) : E4 n := ⟨p.x, p.y, 1, p.x * p.y⟩
def none4 : E4 n := ⟨0, 1, 1, 0⟩
theorem rep_none {d s : Fin n} (hc : Cv n d s) : Rep d (none4 : E4 n) (pzero : Pt n) := by
  have h := rep_of hc (on_zero d)
  have e : (⟨(pzero : Pt n).x, (pzero : Pt n).y, 1, (pzero : Pt n).x * (pzero : Pt n).y⟩ : E4 n) = none4 := by
    show (⟨0, 1, 1, 0 * 1⟩ : E4 n) = ⟨0, 1, 1, 0⟩
    rw [show (0 : Fin n) * 1 = 0 by grind]
  rw [← e]; exact h
def isNone (c : E4 n) : Bool := Nat.beq c.x.val 0 && Nat.beq c.y.val c.z.val
theorem isNone_iff {d s : Fin n} (hc : Cv n d s) {c : E4 n} {p : Pt n} (h : Rep d c p) : isNone c = true ↔ p = pzero := by
  unfold isNone
  rw [Bool.and_eq_true, Nat.beq_eq, Nat.beq_eq]
  constructor
  · intro ⟨h1, h2⟩
    have e1 : c.x = 0 := Fin.eq_of_val_eq h1
    have e2 : c.y = c.z := Fin.eq_of_val_eq h2
    refine pt_eq_of_rep hc.prime h ?_ ?_
    · show c.x = 0 * c.z; rw [e1]; grind
    · show c.y = 1 * c.z; rw [e2]; grind
  · intro e
    have h1 := h.x
    have h2 := h.y
    rw [e] at h1 h2
    have e1 : c.x = 0 := by rw [h1]; show 0 * c.z = 0; grind
    have e2 : c.y = c.z := by rw [h2]; show 1 * c.z = c.z; grind
    exact ⟨by rw [e1]; rfl, by rw [e2]⟩
theorem smul_is {d s : Fin n} (hc : Cv n d s) {p : Pt n} (hp : On d p) (m i : Nat) (hm : m < 2 ^ i) (r : Bool) (h : runE d (fst4 p) m i none4 isNone = r) : r = true ↔ smul d m p = pzero := by
  obtain ⟨c, hr, he⟩ := runE_ok hc (rep_of hc hp) m isNone i none4 (by rw [Nat.div_eq_of_lt hm]; exact rep_none hc)
  rw [← h]
  show runE d _ m i none4 isNone = true ↔ _
  rw [show fst4 p = ⟨p.x, p.y, 1, p.x * p.y⟩ from rfl, he]
  exact isNone_iff hc hr
theorem nosq_of {k : Nat} (hp : Prime n) {x : Fin n} (hk : n = 2 * k + 1) (hx : x ≠ 0) (hl : k < 2 ^ 256) (hne : pmn x.val n 256 k ≠ (1 : Fin n).val) (t : Fin n) : t * t ≠ x := fun h => by
  have h1 := congrArg Fin.val (euler_sq hp hk x hx ⟨t, h⟩)
  rw [fin_pow_val, ← pmn_eq x.val n 256 k hl] at h1
  exact hne h1
end

def Pc : Nat := 57896044618658097711785492504343953926634992332820282019728792003956564819949
theorem Pc_prime : Prime Pc := pr57896044618658097711785492504343953926634992332820282019728792003956564819949
instance : NeZero Pc := ⟨by decide +kernel⟩
def Lc : Nat := 7237005577332262213973186563042994240857116359379907606001950938285454250989
theorem Lc_prime : Prime Lc := pr7237005577332262213973186563042994240857116359379907606001950938285454250989
def Dc : Fin Pc := ⟨37095705934669439343138083508754565189542113879843219016388785533085940283555, by decide +kernel⟩
def Ic : Fin Pc := ⟨19681161376707505956807079304988542015446066515923890162744021073123829784752, by decide +kernel⟩
theorem Ic_sq : Ic * Ic = -1 := by decide +kernel
theorem Dc_nosq : ∀ t, t * t ≠ Dc := nosq_of Pc_prime (k := 28948022309329048855892746252171976963317496166410141009864396001978282409974) (by decide +kernel) (by decide +kernel) (by decide +kernel) (by decide +kernel)
theorem cvc : Cv Pc Dc Ic := ⟨Pc_prime, Ic_sq, Dc_nosq, by decide +kernel⟩
theorem Dc_eq : Dc * 121666 = -121665 := by decide +kernel

def Gc : Pt Pc := ⟨⟨15112221349535400772501151409588531511454012693041857206046113283949847762202, by decide +kernel⟩, ⟨46316835694926478169428394003475163141307993866256225615783033603165251855960, by decide +kernel⟩⟩
theorem Gc_on : On Dc Gc := by unfold On; decide +kernel
theorem Gc_ne : Gc ≠ pzero := fun h => absurd (congrArg (fun p => p.x.val) h) (by decide +kernel)
theorem Gc_L : smul Dc Lc Gc = pzero := (smul_is cvc Gc_on Lc 253 (by decide +kernel) true (by decide +kernel)).1 rfl
def Tc : Pt Pc := ⟨⟨14399317868200118260347934320527232580618823971194345261214217575416788799818, by decide +kernel⟩, ⟨55188659117513257062467267217118295137698188065244968500265048394206261417927, by decide +kernel⟩⟩
theorem Tc_on : On Dc Tc := by unfold On; decide +kernel
theorem Tc_8 : smul Dc 8 Tc = pzero := (smul_is cvc Tc_on 8 4 (by decide) true (by decide +kernel)).1 rfl
theorem Tc_4 : smul Dc 4 Tc ≠ pzero := fun h => absurd ((smul_is cvc Tc_on 4 3 (by decide) false (by decide +kernel)).2 h) (by decide)

/-- L times eight times any point is none. -/
theorem smul_L8 {p : Pt Pc} (hp : On Dc p) : smul Dc Lc (smul Dc 8 p) = pzero :=
  smul_eight cvc Lc_prime (by decide +kernel) (by decide +kernel) Gc_on Tc_on Gc_ne Gc_L Tc_4 Tc_8 hp
end Go.Nt

/- Points as three numbers, and what the laws of the curve say of multiples. No program in sight. -/
namespace Go.Nt

section
variable {n : Nat} [NeZero n]

structure E3 (n : Nat) where
  x : Fin n
  y : Fin n
  z : Fin n

/-- The sum without dividing, of three numbers each. -/
def sum3 (d : Fin n) (p q : E3 n) : E3 n :=
  let z := p.z * q.z
  let zz := z * z
  let xx := p.x * q.x
  let yy := p.y * q.y
  let m := d * (xx * yy)
  let less := zz - m
  let more := zz + m
  let x := p.x * q.y + p.y * q.x
  let y := yy + xx
  ⟨z * (x * less), z * (y * more), less * more⟩

structure Rep3 (d : Fin n) (a : E3 n) (p : Pt n) : Prop where
  on : On d p
  z : a.z ≠ 0
  x : a.x = p.x * a.z
  y : a.y = p.y * a.z

theorem s3_l (d X1 Y1 z1 X2 Y2 z2 : Fin n) : z1*z2*(z1*z2) - d*(X1*z1*(X2*z2)*(Y1*z1*(Y2*z2))) = z1*z2*(z1*z2)*(1 - d*X1*X2*Y1*Y2) := by grind
theorem s3_m (d X1 Y1 z1 X2 Y2 z2 : Fin n) : z1*z2*(z1*z2) + d*(X1*z1*(X2*z2)*(Y1*z1*(Y2*z2))) = z1*z2*(z1*z2)*(1 + d*X1*X2*Y1*Y2) := by grind
theorem s3_x (X1 Y1 z1 X2 Y2 z2 U w k e : Fin n) (hw : w = z1*z2) (h : U * k = X1*Y2 + Y1*X2) : w*((X1*z1*(Y2*z2) + Y1*z1*(X2*z2))*(w*w*e)) = U*(w*w*e*(w*w*k)) := by
  have : U*(w*w*e*(w*w*k)) = w*w*e*(w*w)*(U*k) := by grind
  rw [this, h, hw]; grind
theorem s3_y (X1 Y1 z1 X2 Y2 z2 V w k e : Fin n) (hw : w = z1*z2) (h : V * k = Y1*Y2 + X1*X2) : w*((Y1*z1*(Y2*z2) + X1*z1*(X2*z2))*(w*w*e)) = V*(w*w*k*(w*w*e)) := by
  have : V*(w*w*k*(w*w*e)) = w*w*e*(w*w)*(V*k) := by grind
  rw [this, h, hw]; grind

theorem rep3_sum {d s : Fin n} (hc : Cv n d s) {a b : E3 n} {p q : Pt n} (h : Rep3 d a p) (h' : Rep3 d b q) : Rep3 d (sum3 d a b) (padd d p q) := by
  obtain ⟨hp, hz, hx, hy⟩ := h
  obtain ⟨hq, hz', hx', hy'⟩ := h'
  have ux := padd_x hc hp hq
  have uy := padd_y hc hp hq
  obtain ⟨n1, n2⟩ := den_ne hc hp hq
  rw [ee_def] at ux uy n1 n2
  have hw := mul_ne hc.prime hz hz'
  have hww := mul_ne hc.prime hw hw
  have e1 := s3_l d p.x p.y a.z q.x q.y b.z
  have e2 := s3_m d p.x p.y a.z q.x q.y b.z
  have e3 := s3_x p.x p.y a.z q.x q.y b.z _ (a.z * b.z) _ (1 - d * p.x * q.x * p.y * q.y) rfl ux
  have e4 := s3_y p.x p.y a.z q.x q.y b.z _ (a.z * b.z) _ (1 + d * p.x * q.x * p.y * q.y) rfl uy
  have l1 := mul_ne hc.prime (mul_ne hc.prime hww n2) (mul_ne hc.prime hww n1)
  refine ⟨on_padd hc hp hq, ?_, ?_, ?_⟩
  · simp only [sum3, hx, hy, hx', hy', e1, e2]
    exact l1
  · simp only [sum3, hx, hy, hx', hy', e1, e2]
    exact e3
  · simp only [sum3, hx, hy, hx', hy', e1, e2]
    exact e4

def pt3 (a : E3 n) : Pt n := ⟨a.x * inv a.z, a.y * inv a.z⟩
theorem rep3_pt {d s : Fin n} (hc : Cv n d s) {a : E3 n} {p : Pt n} (h : Rep3 d a p) : pt3 a = p := by
  have hi := mul_inv hc.prime _ h.z
  apply Pt.eq
  · show a.x * inv a.z = p.x; rw [h.x]; generalize a.z = z at *; grind
  · show a.y * inv a.z = p.y; rw [h.y]; generalize a.z = z at *; grind
theorem rep3_of {d s : Fin n} (hc : Cv n d s) {p : Pt n} (hp : On d p) : Rep3 d ⟨p.x, p.y, 1⟩ p :=
  ⟨hp, one_ne_zero hc.prime, by show p.x = p.x * 1; grind, by show p.y = p.y * 1; grind⟩

/-! ### Multiples modulo the order -/
theorem smul_mod {d s : Fin n} (hc : Cv n d s) {p : Pt n} (hp : On d p) {l : Nat} (h : smul d l p = pzero) (m : Nat) : smul d (m % l) p = smul d m p := by
  have e : smul d m p = smul d (l * (m / l) + m % l) p := by rw [Nat.div_add_mod]
  rw [e, smul_add hc hp, Nat.mul_comm, smul_mul hc hp, h, smul_zero hc, zero_padd hc (on_smul hc hp _)]
theorem smul_double {d s : Fin n} (hc : Cv n d s) {p : Pt n} (hp : On d p) (k : Nat) : smul d (2 * k) p = padd d (smul d k p) (smul d k p) := by
  rw [Nat.two_mul, smul_add hc hp]
theorem smul_succ {d s : Fin n} (hc : Cv n d s) {p : Pt n} (hp : On d p) (k : Nat) : smul d (k + 1) p = padd d (smul d k p) p := by
  rw [smul_add hc hp, smul_one hc hp]
theorem smul_8 {d s : Fin n} (hc : Cv n d s) {p : Pt n} (hp : On d p) : smul d 8 p = padd d (padd d (padd d p p) (padd d p p)) (padd d (padd d p p) (padd d p p)) := by
  rw [show (8 : Nat) = 2 * (2 * (2 * 1)) from rfl, smul_double hc hp, smul_double hc hp, smul_double hc hp, smul_one hc hp]
/-- A multiple of a point of that order has it, too. -/
theorem smul_ord {d s : Fin n} (hc : Cv n d s) {p : Pt n} (hp : On d p) {l : Nat} (h : smul d l p = pzero) (k : Nat) : smul d l (smul d k p) = pzero := by
  rw [← smul_mul hc hp, Nat.mul_comm, smul_mul hc hp, h, smul_zero hc]
/-- One less than the order, and once: none. -/
theorem smul_pred {d s : Fin n} (hc : Cv n d s) {p : Pt n} (hp : On d p) {l : Nat} (hl : 0 < l) (h : smul d l p = pzero) : padd d (smul d (l - 1) p) p = pzero := by
  rw [← smul_succ hc hp, Nat.sub_add_cancel hl, h]
end
end Go.Nt

/- Points as eight digits: the curve's laws over lists of digits. No program in sight. -/
namespace Go.Nt
open Go.Sx

def cls (l : List Int) : Fin Pc := toF Pc (val l)
def digs (x : Fin Pc) : List Int := toL 4 x.val
theorem digs_length (x : Fin Pc) : (digs x).length = 4 := toL_length _ _
theorem digs_u64 (x : Fin Pc) : U64 (digs x) := toL_u64 _ _
theorem Pc_pw : (Pc : Int) < pw 4 := by decide +kernel
theorem val_digs (x : Fin Pc) : val (digs x) = x.val := by
  unfold digs
  rw [val_toL]
  have := x.isLt
  have h := Pc_pw
  exact Int.emod_eq_of_lt (by omega) (by omega)
theorem toF_fin (x : Fin Pc) : toF Pc x.val = x := ((toF_of Pc x x.val rfl)).symm
theorem cls_digs (x : Fin Pc) : cls (digs x) = x := by
  unfold cls; rw [val_digs, toF_fin]
theorem digs_toF (n : Int) : toL 4 (n % Pc) = digs (toF Pc n) := by
  unfold digs; rw [toF_val]
theorem digs_inj {x y : Fin Pc} (h : digs x = digs y) : x = y := by
  have := congrArg cls h; rwa [cls_digs, cls_digs] at this

instance (d : Fin Pc) (p : Pt Pc) : Decidable (On d p) := by unfold On; infer_instance
instance : DecidableEq (Pt Pc) := fun p q =>
  if h : p.x = q.x ∧ p.y = q.y then isTrue (Pt.eq h.1 h.2) else isFalse fun e => h ⟨by rw [e], by rw [e]⟩

def rawL (l : List Int) : Pt Pc := ⟨cls (l.take 4), cls (l.drop 4)⟩
/-- A point as it is taken: none, if the numbers are not one. -/
def tkL (l : List Int) : Pt Pc := if On Dc (rawL l) then rawL l else pzero
def ptL (p : Pt Pc) : List Int := digs p.x ++ digs p.y
theorem tk_on (l : List Int) : On Dc (tkL l) := by
  unfold tkL; split
  · assumption
  · exact on_zero Dc
theorem ptL_length (p : Pt Pc) : (ptL p).length = 8 := by simp [ptL, digs_length]
theorem ptL_u64 (p : Pt Pc) : U64 (ptL p) := fun x hx => by
  rcases List.mem_append.1 hx with h | h
  · exact digs_u64 _ x h
  · exact digs_u64 _ x h
theorem raw_pt (p : Pt Pc) : rawL (ptL p) = p := by
  unfold rawL ptL
  rw [List.take_left' (digs_length _), List.drop_left' (digs_length _), cls_digs, cls_digs]
theorem tk_pt {p : Pt Pc} (h : On Dc p) : tkL (ptL p) = p := by
  unfold tkL; rw [raw_pt, if_pos h]
theorem ptL_inj {p q : Pt Pc} (h : ptL p = ptL q) : p = q := by
  have := congrArg rawL h; rwa [raw_pt, raw_pt] at this
theorem ptL_beq (p q : Pt Pc) : (ptL p == ptL q) = decide (p = q) := by
  by_cases h : p = q
  · rw [decide_eq_true h, h, beq_self_eq_true]
  · rw [decide_eq_false h]; exact beq_eq_false_iff_ne.2 fun e => h (ptL_inj e)

/-- So many times a point: the number modulo L. -/
def sm (k : Int) (p : Pt Pc) : Pt Pc := smul Dc (k % Lc).toNat p
theorem on_sm (k : Int) {p : Pt Pc} (h : On Dc p) : On Dc (sm k p) := on_smul cvc h _
theorem sm_mod (k : Int) (p : Pt Pc) : sm (k % Lc) p = sm k p := by
  unfold sm; rw [Int.emod_emod_of_dvd _ (Int.dvd_refl _)]
theorem Lc_pos : (0 : Int) < Lc := by decide +kernel
theorem sm_of {p : Pt Pc} (h : On Dc p) (hl : smul Dc Lc p = pzero) (k : Nat) : sm (k : Int) p = smul Dc k p := by
  unfold sm
  rw [← smul_mod cvc h hl k]
  congr 1
theorem sm_small (k : Nat) (hk : k < Lc) (p : Pt Pc) : sm (k : Int) p = smul Dc k p := by
  unfold sm
  congr 1
  rw [Int.emod_eq_of_lt (by omega) (by omega)]; omega
theorem sm_nat (k : Int) (p : Pt Pc) : sm k p = sm (((k % Lc).toNat : Nat) : Int) p := by
  have h0 := Int.emod_nonneg k (Int.ne_of_gt Lc_pos)
  rw [Int.toNat_of_nonneg h0, sm_mod]
theorem sm_L (k : Int) {p : Pt Pc} (h : On Dc p) (hl : smul Dc Lc p = pzero) : smul Dc Lc (sm k p) = pzero := smul_ord cvc h hl _
theorem sm_add {p : Pt Pc} (h : On Dc p) (hl : smul Dc Lc p = pzero) (a b : Int) : sm (a + b) p = padd Dc (sm a p) (sm b p) := by
  have ha := Int.emod_nonneg a (Int.ne_of_gt Lc_pos)
  have hb := Int.emod_nonneg b (Int.ne_of_gt Lc_pos)
  have e : sm (a + b) p = sm (((a % Lc).toNat + (b % Lc).toNat : Nat) : Int) p := by
    rw [Int.natCast_add, Int.toNat_of_nonneg ha, Int.toNat_of_nonneg hb, ← sm_mod, ← sm_mod (_ + _), ← Int.add_emod]
  rw [e, sm_of h hl, smul_add cvc h]
  rfl
theorem sm_mul {p : Pt Pc} (h : On Dc p) (hl : smul Dc Lc p = pzero) (a b : Int) : sm (a * b) p = sm a (sm b p) := by
  have ha := Int.emod_nonneg a (Int.ne_of_gt Lc_pos)
  have hb := Int.emod_nonneg b (Int.ne_of_gt Lc_pos)
  have e : sm (a * b) p = sm (((a % Lc).toNat * (b % Lc).toNat : Nat) : Int) p := by
    rw [Int.natCast_mul, Int.toNat_of_nonneg ha, Int.toNat_of_nonneg hb, ← sm_mod, ← sm_mod (_ * _), ← Int.mul_emod]
  rw [e, sm_of h hl, smul_mul cvc h]
  rfl
theorem sm_padd (k : Int) {p q : Pt Pc} (hp : On Dc p) (hq : On Dc q) : sm k (padd Dc p q) = padd Dc (sm k p) (sm k q) := smul_padd cvc hp hq _
theorem sm_pneg (k : Int) {p : Pt Pc} (hp : On Dc p) : sm k (pneg p) = pneg (sm k p) := smul_neg cvc hp _
theorem sm_minus {p : Pt Pc} (h : On Dc p) (hl : smul Dc Lc p = pzero) : padd Dc (sm (-1) p) p = pzero := by
  have e : sm (-1) p = smul Dc (Lc - 1) p := by
    unfold sm; congr 1
  rw [e]
  exact smul_pred cvc h (by decide +kernel) hl
end Go.Nt

/- Points as bytes: the number that a point is written as, and the point that a number is. No program in sight. -/
namespace Go.Nt

/-- The number whose bytes a point is written as. -/
def encN (p : Pt Pc) : Nat := p.y.val + 2 ^ 255 * (p.x.val % 2)
theorem Pc_lt : Pc < 2 ^ 255 := by decide +kernel
theorem Pc_odd : Pc % 2 = 1 := by decide +kernel
theorem encN_mod (p : Pt Pc) : encN p % 2 ^ 255 = p.y.val := by
  have h := p.y.isLt
  have h2 := Pc_lt
  unfold encN
  generalize (2 : Nat) ^ 255 = B at *
  rw [Nat.add_mul_mod_self_left]
  exact Nat.mod_eq_of_lt (by omega)
theorem encN_div (p : Pt Pc) : encN p / 2 ^ 255 = p.x.val % 2 := by
  have h := p.y.isLt
  have h2 := Pc_lt
  unfold encN
  have hB : 0 < (2 : Nat) ^ 255 := Nat.pow_pos (by decide)
  generalize (2 : Nat) ^ 255 = B at *
  rw [Nat.add_mul_div_left _ _ hB, Nat.div_eq_of_lt (by omega), Nat.zero_add]
theorem encN_lt (p : Pt Pc) : encN p < 2 ^ 256 := by
  have h := p.y.isLt
  have h2 := Pc_lt
  have e : (2 : Nat) ^ 256 = 2 ^ 255 * 2 := Nat.pow_succ ..
  unfold encN
  rw [e]
  generalize (2 : Nat) ^ 255 = B at *
  have : p.x.val % 2 < 2 := Nat.mod_lt _ (by decide)
  have h3 : B * (p.x.val % 2) ≤ B * 1 := Nat.mul_le_mul_left _ (by omega)
  omega

theorem neg_val {x : Fin Pc} (h : x ≠ 0) : (-x).val = Pc - x.val := by
  have h0 : x.val ≠ 0 := fun e => h (Fin.eq_of_val_eq e)
  have := x.isLt
  rw [Fin.neg_def]
  exact Nat.mod_eq_of_lt (by omega)
theorem neg_par {x : Fin Pc} (h : x ≠ 0) : (-x).val % 2 = 1 - x.val % 2 := by
  rw [neg_val h]
  have := x.isLt
  have := Pc_odd
  omega

/-- What a point's equation says of its X. -/
theorem on_iff (p : Pt Pc) : On Dc p ↔ (Dc * (p.y * p.y) + 1) * (p.x * p.x) = p.y * p.y - 1 := by
  obtain ⟨x, y⟩ := p
  unfold On
  generalize Dc = d
  constructor <;> intro h <;> simp only at * <;> grind
theorem vy_zero {n : Nat} [NeZero n] (d : Fin n) : d * (0 * 0) + 1 = 1 := by grind
theorem vy_ne (y : Fin Pc) : Dc * (y * y) + 1 ≠ 0 := fun h => by
  have hy : y ≠ 0 := fun e => by
    rw [e] at h
    exact one_ne_zero Pc_prime ((vy_zero Dc).symm.trans h)
  have hi := mul_inv Pc_prime y hy
  refine Dc_nosq (Ic * inv y) ?_
  have hI := Ic_sq
  generalize inv y = w at *
  generalize Dc = d at *
  generalize Ic = i at *
  have e1 : i * w * (i * w) = i * i * (w * w) := by grind
  have e2 : d * (y * y) = -1 := by grind
  have e3 : d = d * (y * w) * (y * w) := by rw [hi]; grind
  rw [e1, hI, e3]
  have e4 : d * (y * w) * (y * w) = d * (y * y) * (w * w) := by grind
  rw [e4, e2]
/-- Two points of one Y: one, or below none. -/
theorem same_y {p q : Pt Pc} (hp : On Dc p) (hq : On Dc q) (h : p.y = q.y) : p = q ∨ p = pneg q := by
  have h1 := (on_iff p).1 hp
  have h2 := (on_iff q).1 hq
  rw [h] at h1
  have h3 := cancel Pc_prime (vy_ne q.y) (show p.x * p.x * (Dc * (q.y * q.y) + 1) = q.x * q.x * (Dc * (q.y * q.y) + 1) by
    generalize Dc * (q.y * q.y) + 1 = v at *
    grind)
  rcases sq_eq Pc_prime _ _ h3 with h4 | h4
  · exact .inl (Pt.eq h4 h)
  · exact .inr (Pt.eq h4 h)
/-- Unlike points are written unlike. -/
theorem encN_inj {p q : Pt Pc} (hp : On Dc p) (hq : On Dc q) (h : encN p = encN q) : p = q := by
  have hy : p.y = q.y := Fin.eq_of_val_eq (by rw [← encN_mod, ← encN_mod, h])
  have hx : p.x.val % 2 = q.x.val % 2 := by rw [← encN_div, ← encN_div, h]
  rcases same_y hp hq hy with e | e
  · exact e
  · by_cases h0 : q.x = 0
    · rw [e]
      refine Pt.eq ?_ rfl
      show -q.x = q.x
      rw [h0]; grind
    · have hn := neg_par h0
      rw [e] at hx
      have hx : (-q.x).val % 2 = q.x.val % 2 := hx
      omega

/-- A root as field.Root gives it: even; none, if there is none. -/
def IsRoot (u v r : Fin Pc) (ok : Bool) : Prop := r.val % 2 = 0 ∧ ((ok = true ∧ v * (r * r) = u) ∨ (ok = false ∧ ∀ t, v * (t * t) ≠ u))

/-- The point that a number is, if it is one. -/
def decP (N : Nat) (r : Fin Pc) (ok : Bool) : Option (Pt Pc) :=
  match ok with
  | false => none
  | true => (fun p => if encN p = N then some p else none) ⟨if N / 2 ^ 255 = 1 then -r else r, toF Pc (N % 2 ^ 255 : Nat)⟩

theorem decP_iff {N : Nat} {r : Fin Pc} {ok : Bool} {y : Fin Pc} (hy : y = toF Pc (N % 2 ^ 255 : Nat)) (h : IsRoot (y * y - 1) (Dc * (y * y) + 1) r ok) (p : Pt Pc) :
    decP N r ok = some p ↔ On Dc p ∧ encN p = N := by
  obtain ⟨he, h⟩ := h
  constructor
  · intro hd
    unfold decP at hd
    rcases h with ⟨rfl, h⟩ | ⟨rfl, -⟩
    · simp only at hd
      by_cases hN : encN ⟨if N / 2 ^ 255 = 1 then -r else r, toF Pc (N % 2 ^ 255 : Nat)⟩ = N
      · rw [if_pos hN] at hd
        obtain rfl := Option.some.inj hd
        refine ⟨(on_iff _).2 ?_, hN⟩
        simp only [← hy]
        rw [← h]
        split
        · generalize Dc * (y * y) + 1 = v
          grind
        · rfl
      · rw [if_neg hN] at hd; cases hd
    · cases hd
  · intro ⟨hp, hN⟩
    have hpy : p.y = y := by
      rw [hy, ← hN, encN_mod]
      exact (toF_fin p.y).symm
    have hx := (on_iff p).1 hp
    rw [hpy] at hx
    rcases h with ⟨rfl, h⟩ | ⟨-, h⟩
    · have hq : On Dc ⟨r, y⟩ := (on_iff _).2 h
      have hs : N / 2 ^ 255 = p.x.val % 2 := by rw [← hN, encN_div]
      have hpx : p = ⟨if N / 2 ^ 255 = 1 then -r else r, toF Pc (N % 2 ^ 255 : Nat)⟩ := by
        refine Pt.eq ?_ (by rw [← hy]; exact hpy)
        show p.x = if N / 2 ^ 255 = 1 then -r else r
        rw [hs]
        rcases same_y hp hq hpy with e | e
        · have e1 : p.x = r := congrArg Pt.x e
          rw [e1, if_neg (by omega)]
        · have e1 : p.x = -r := congrArg Pt.x e
          by_cases h0 : r = 0
          · rw [e1, h0]
            have : -(0 : Fin Pc) = 0 := by grind
            rw [this]
            split <;> rfl
          · have hn := neg_par h0
            rw [e1, if_pos (by omega)]
      unfold decP
      simp only
      rw [← hpx, if_pos hN]
    · exact absurd hx (h p.x)

/-- With the highest bit turned: what is below none, but of an X of 0. -/
theorem encN_neg {p : Pt Pc} (h : p.x ≠ 0) : encN (pneg p) = p.y.val + 2 ^ 255 * (1 - p.x.val % 2) := by
  unfold encN
  rw [show (pneg p).x = -p.x from rfl, neg_par h]
  rfl
theorem enc_turned {p q : Pt Pc} (hp : On Dc p) (hq : On Dc q) (h : encN q = p.y.val + 2 ^ 255 * (1 - p.x.val % 2)) : p.x ≠ 0 ∧ q = pneg p := by
  have hB : 0 < (2 : Nat) ^ 255 := Nat.pow_pos (by decide)
  have hl := p.y.isLt
  have h2 := Pc_lt
  have e1 : q.y.val = p.y.val := by
    rw [← encN_mod, h, Nat.add_mul_mod_self_left]
    exact Nat.mod_eq_of_lt (by omega)
  have e2 : q.x.val % 2 = 1 - p.x.val % 2 := by
    rw [← encN_div, h, Nat.add_mul_div_left _ _ hB, Nat.div_eq_of_lt (by omega), Nat.zero_add]
  have hx : p.x ≠ 0 := fun h0 => by
    rcases same_y hq hp (Fin.eq_of_val_eq e1) with e | e
    · rw [e] at e2; omega
    · rw [e, show (pneg p).x = -p.x from rfl, h0] at e2
      have : -(0 : Fin Pc) = 0 := by grind
      rw [this] at e2
      exact absurd e2 (by decide)
  rcases same_y hq hp (Fin.eq_of_val_eq e1) with e | e
  · rw [e] at e2; omega
  · exact ⟨hx, e⟩

/-- A multiple of the first point is of a small order, if the number is a multiple of L, alone. -/
theorem small_iff (a : Int) : smul Dc 8 (sm a Gc) = pzero ↔ a % Lc = 0 := by
  have h0 := Int.emod_nonneg a (Int.ne_of_gt Lc_pos)
  have h1 := Int.emod_lt_of_pos a Lc_pos
  unfold sm
  constructor
  · intro h
    rw [← smul_mul cvc Gc_on] at h
    apply Classical.byContradiction
    intro hne
    have hn : ¬ Lc ∣ 8 * (a % Lc).toNat := fun hd => by
      have hg : Nat.Coprime Lc 8 := by unfold Nat.Coprime; decide +kernel
      have := Nat.le_of_dvd (by omega) (hg.dvd_of_dvd_mul_left hd)
      omega
    have := smul_gcd cvc Gc_on Lc _ Gc_L h
    rw [Lc_prime.coprime hn, smul_one cvc Gc_on] at this
    exact Gc_ne this
  · intro h
    rw [h]
    exact smul_zero cvc 8
end Go.Nt

/- What the document's reading of bytes gives; points of three and four numbers as digits. No program in sight. -/
namespace Go.Nt
open Go.Sx

/-! ### The document's reading: of both points of a Y, the one that is written so -/
def refP (N : Nat) (r : Fin Pc) (ok : Bool) : Option (Pt Pc) :=
  match ok with
  | false => none
  | true => (fun p q => if encN p = N then some p else if encN q = N then some q else none) ⟨r, toF Pc (N % 2 ^ 255 : Nat)⟩ ⟨-r, toF Pc (N % 2 ^ 255 : Nat)⟩
theorem on_root {r y : Fin Pc} (h : (Dc * (y * y) + 1) * (r * r) = y * y - 1) : On Dc ⟨r, y⟩ ∧ On Dc ⟨-r, y⟩ := by
  refine ⟨(on_iff _).2 h, (on_iff _).2 ?_⟩
  simp only
  rw [← h]
  generalize Dc * (y * y) + 1 = v
  grind
theorem refP_iff {N : Nat} {r : Fin Pc} {ok : Bool} {y : Fin Pc} (hy : y = toF Pc (N % 2 ^ 255 : Nat)) (h : IsRoot (y * y - 1) (Dc * (y * y) + 1) r ok) (p : Pt Pc) :
    refP N r ok = some p ↔ On Dc p ∧ encN p = N := by
  obtain ⟨he, h⟩ := h
  rcases h with ⟨rfl, h⟩ | ⟨rfl, h⟩
  · obtain ⟨o1, o2⟩ := on_root h
    unfold refP
    simp only
    rw [← hy]
    by_cases h1 : encN ⟨r, y⟩ = N
    · rw [if_pos h1]
      constructor
      · intro e; obtain rfl := Option.some.inj e; exact ⟨o1, h1⟩
      · intro ⟨hp, hN⟩; rw [encN_inj hp o1 (hN.trans h1.symm)]
    · rw [if_neg h1]
      by_cases h2 : encN ⟨-r, y⟩ = N
      · rw [if_pos h2]
        constructor
        · intro e; obtain rfl := Option.some.inj e; exact ⟨o2, h2⟩
        · intro ⟨hp, hN⟩; rw [encN_inj hp o2 (hN.trans h2.symm)]
      · rw [if_neg h2]
        constructor
        · intro e; cases e
        · intro ⟨hp, hN⟩
          have hpy : p.y = y := by rw [hy, ← hN, encN_mod]; exact (toF_fin p.y).symm
          rcases same_y hp o1 hpy with e | e
          · rw [e] at hN; exact absurd hN h1
          · rw [e] at hN; exact absurd hN h2
  · constructor
    · intro e; cases e
    · intro ⟨hp, hN⟩
      have hpy : p.y = y := by rw [hy, ← hN, encN_mod]; exact (toF_fin p.y).symm
      have hx := (on_iff p).1 hp
      rw [hpy] at hx
      exact absurd hx (h p.x)
theorem opt_eq {α : Type} {o o' : Option α} (h : ∀ p, o = some p ↔ o' = some p) : o = o' := by
  cases o with
  | none => cases o' with
    | none => rfl
    | some q => cases (h q).2 rfl
  | some p => exact ((h p).1 rfl).symm
theorem root_times {u v r c : Fin Pc} {ok : Bool} (hc : c ≠ 0) (h : IsRoot (c * u) (c * v) r ok) : IsRoot u v r ok := by
  obtain ⟨he, h⟩ := h
  refine ⟨he, ?_⟩
  rcases h with ⟨h1, h⟩ | ⟨h1, h⟩
  · refine .inl ⟨h1, cancel Pc_prime hc ?_⟩
    have e1 : v * (r * r) * c = c * v * (r * r) := by grind
    rw [e1, h]; grind
  · refine .inr ⟨h1, fun t e => h t ?_⟩
    rw [← e]; grind

/-! ### Digits -/
def sl (l : List Int) (i : Nat) : List Int := (l.drop (4 * i)).take 4
def e4 (l : List Int) : E4 Pc := ⟨cls (sl l 0), cls (sl l 1), cls (sl l 2), cls (sl l 3)⟩
def e3 (l : List Int) : E3 Pc := ⟨cls (sl l 0), cls (sl l 1), cls (sl l 2)⟩
def e4L (a : E4 Pc) : List Int := digs a.x ++ (digs a.y ++ (digs a.z ++ digs a.t))
def e3L (a : E3 Pc) : List Int := digs a.x ++ (digs a.y ++ digs a.z)
theorem sl_zero {a b : List Int} (h : a.length = 4) : sl (a ++ b) 0 = a := by
  unfold sl; rw [Nat.mul_zero, List.drop_zero, List.take_left' h]
theorem sl_succ {a b : List Int} (h : a.length = 4) (i : Nat) : sl (a ++ b) (i + 1) = sl b i := by
  unfold sl; rw [show 4 * (i + 1) = a.length + 4 * i by omega, List.drop_append, List.drop_eq_nil_of_le (by omega), Nat.add_sub_cancel_left, List.nil_append]
theorem sl_self {a : List Int} (h : a.length = 4) : sl a 0 = a := by
  unfold sl; rw [Nat.mul_zero, List.drop_zero, ← h, List.take_length]
theorem e4_e4L (a : E4 Pc) : e4 (e4L a) = a := by
  unfold e4 e4L
  rw [sl_zero (digs_length _), show (1 : Nat) = 0 + 1 from rfl, show (2 : Nat) = 0 + 1 + 1 from rfl, show (3 : Nat) = 0 + 1 + 1 + 1 from rfl]
  simp only [sl_succ (digs_length _), sl_zero (digs_length _), sl_self (digs_length _), cls_digs]
theorem e3_e3L (a : E3 Pc) : e3 (e3L a) = a := by
  unfold e3 e3L
  rw [sl_zero (digs_length _), show (1 : Nat) = 0 + 1 from rfl, show (2 : Nat) = 0 + 1 + 1 from rfl]
  simp only [sl_succ (digs_length _), sl_zero (digs_length _), sl_self (digs_length _), cls_digs]
theorem e4L_length (a : E4 Pc) : (e4L a).length = 16 := by simp [e4L, digs_length]
theorem e3L_length (a : E3 Pc) : (e3L a).length = 12 := by simp [e3L, digs_length]
theorem u64_app {a b : List Int} (h : U64 a) (h' : U64 b) : U64 (a ++ b) := fun x hx => by
  rcases List.mem_append.1 hx with hx | hx
  · exact h x hx
  · exact h' x hx
theorem e4L_u64 (a : E4 Pc) : U64 (e4L a) := u64_app (digs_u64 _) (u64_app (digs_u64 _) (u64_app (digs_u64 _) (digs_u64 _)))
theorem e3L_u64 (a : E3 Pc) : U64 (e3L a) := u64_app (digs_u64 _) (u64_app (digs_u64 _) (digs_u64 _))

/-! ### Multiples, bit by bit -/
theorem smul_bits {p : Pt Pc} (hp : On Dc p) (X b : Nat) (hb : b = 0 ∨ b = 1) : smul Dc (X + X + b) p = if b = 1 then padd Dc (padd Dc (smul Dc X p) (smul Dc X p)) p else padd Dc (smul Dc X p) (smul Dc X p) := by
  rcases hb with rfl | rfl
  · rw [if_neg (by decide), Nat.add_zero, smul_add cvc hp]
  · rw [if_pos rfl, smul_succ cvc hp, smul_add cvc hp]
theorem rep4_step {a b : E4 Pc} {p : Pt Pc} (hb : Rep Dc b p) {X : Nat} (h : Rep Dc a (smul Dc X p)) : Rep Dc (twice a) (smul Dc (X + X) p) ∧ Rep Dc (plus4 Dc (twice a) b) (smul Dc (X + X + 1) p) := by
  have h2 := rep_twice cvc h
  rw [← smul_add cvc hb.on] at h2
  refine ⟨h2, ?_⟩
  rw [smul_succ cvc hb.on]
  exact rep_plus cvc h2 hb
theorem rep3_step {a b : E3 Pc} {p : Pt Pc} (hb : Rep3 Dc b p) {X : Nat} (h : Rep3 Dc a (smul Dc X p)) : Rep3 Dc (sum3 Dc a a) (smul Dc (X + X) p) ∧ Rep3 Dc (sum3 Dc (sum3 Dc a a) b) (smul Dc (X + X + 1) p) := by
  have h2 := rep3_sum cvc h h
  rw [← smul_add cvc hb.on] at h2
  refine ⟨h2, ?_⟩
  rw [smul_succ cvc hb.on]
  exact rep3_sum cvc h2 hb
end Go.Nt

/- The curve's operations over eight digits, and the laws of them. No program in sight. -/
namespace Go.Nt
open Go.Sx

def addV (l m : List Int) : List Int := ptL (padd Dc (tkL l) (tkL m))
def negV (l : List Int) : List Int := ptL (pneg (tkL l))
def mulV (k : Int) (l : List Int) : List Int := ptL (sm k (tkL l))
def clearV (l : List Int) : List Int := ptL (smul Dc 8 (tkL l))
def checkV (l : List Int) : Bool := decide (On Dc (rawL l))
def sameV (l m : List Int) : Bool := decide (tkL l = tkL m)
def zeroV : List Int := ptL pzero
def baseV : List Int := ptL Gc

theorem check_pt (p : Pt Pc) : checkV (ptL p) = decide (On Dc p) := by unfold checkV; rw [raw_pt]
theorem tk_zero : tkL zeroV = pzero := tk_pt (on_zero Dc)
theorem tk_base : tkL baseV = Gc := tk_pt Gc_on
theorem tk_add (l m : List Int) : tkL (addV l m) = padd Dc (tkL l) (tkL m) := tk_pt (on_padd cvc (tk_on l) (tk_on m))
theorem tk_neg (l : List Int) : tkL (negV l) = pneg (tkL l) := tk_pt (on_neg (tk_on l))
theorem tk_mul (k : Int) (l : List Int) : tkL (mulV k l) = sm k (tkL l) := tk_pt (on_sm k (tk_on l))
theorem tk_clear (l : List Int) : tkL (clearV l) = smul Dc 8 (tkL l) := tk_pt (on_smul cvc (tk_on l) 8)
theorem pneg_pneg (p : Pt Pc) : pneg (pneg p) = p := Pt.eq (by show - -p.x = p.x; grind) rfl

/-! ### Groups -/
theorem add_check (p q : List Int) : checkV (addV p q) = true := by
  unfold addV; rw [check_pt]; exact decide_eq_true (on_padd cvc (tk_on p) (tk_on q))
theorem add_comm (p q : List Int) : addV p q = addV q p := by unfold addV; rw [padd_comm]
theorem add_assoc (p q r : List Int) : addV (addV p q) r = addV p (addV q r) := by
  unfold addV
  rw [tk_pt (on_padd cvc (tk_on p) (tk_on q)), tk_pt (on_padd cvc (tk_on q) (tk_on r)), padd_assoc cvc (tk_on p) (tk_on q) (tk_on r)]
theorem add_neg (p : List Int) : addV p (negV p) = zeroV := by
  unfold addV; rw [tk_neg, padd_neg cvc (tk_on p)]; rfl
theorem same_zero (p : List Int) : sameV (addV p zeroV) p = true := by
  unfold sameV; rw [tk_add, tk_zero, padd_zero cvc (tk_on p)]; exact decide_eq_true rfl
theorem add_zero (p : List Int) : addV p zeroV = ptL (tkL p) := by
  unfold addV; rw [tk_zero, padd_zero cvc (tk_on p)]

/-! ### Sums -/
theorem mul_mod (k : Int) (p : List Int) : mulV (k % Lc) p = mulV k p := by unfold mulV; rw [sm_mod]
theorem mul_check (k : Int) (p : List Int) : checkV (mulV k p) = true := by
  unfold mulV; rw [check_pt]; exact decide_eq_true (on_sm k (tk_on p))
theorem great (c : Int) : smul Dc Lc (tkL (mulV c baseV)) = pzero := by
  rw [tk_mul, tk_base]; exact sm_L c Gc_on Gc_L
theorem sums_add (a b c : Int) : mulV (a + b) (mulV c baseV) = addV (mulV a (mulV c baseV)) (mulV b (mulV c baseV)) := by
  have h := great c
  have ho := tk_on (mulV c baseV)
  generalize mulV c baseV = p at *
  unfold addV
  rw [tk_mul, tk_mul, ← sm_add ho h]; rfl
theorem sums_mul (a b c : Int) : mulV (a * b) (mulV c baseV) = mulV a (mulV b (mulV c baseV)) := by
  have h := great c
  have ho := tk_on (mulV c baseV)
  generalize mulV c baseV = p at *
  show _ = ptL (sm a (tkL (mulV b p)))
  rw [tk_mul, ← sm_mul ho h]; rfl
theorem sums_point (a : Int) (p q : List Int) : mulV a (addV p q) = addV (mulV a p) (mulV a q) := by
  unfold addV
  rw [tk_mul, tk_mul, ← sm_padd a (tk_on p) (tk_on q)]
  show ptL (sm a (tkL (addV p q))) = _
  rw [tk_add]

/-! ### Steps -/
theorem step_add (k : Nat) (p : List Int) : addV (ptL (smul Dc k (tkL p))) p = ptL (smul Dc (k + 1) (tkL p)) := by
  unfold addV
  rw [tk_pt (on_smul cvc (tk_on p) k), smul_succ cvc (tk_on p)]
theorem step_end (k : Nat) (hk : k < 40) (p : List Int) : mulV (k : Int) p = ptL (smul Dc k (tkL p)) := by
  unfold mulV
  rw [sm_small k (Nat.lt_trans hk (by decide +kernel))]
theorem clear_mul (p : List Int) : clearV p = mulV 8 p := (step_end 8 (by decide) p).symm

/-! ### Below none -/
theorem neg_mul (k : Int) (p : List Int) : mulV k (negV p) = negV (mulV k p) := by
  unfold negV
  rw [tk_mul, ← sm_pneg k (tk_on p)]
  show ptL (sm k (tkL (negV p))) = _
  rw [tk_neg]
theorem neg_neg (p : List Int) : negV (negV p) = addV p zeroV := by
  rw [add_zero]
  show ptL (pneg (tkL (negV p))) = _
  rw [tk_neg, pneg_pneg]
theorem neg_last (p : List Int) : addV (mulV (-1) (clearV p)) (clearV p) = zeroV := by
  unfold addV
  rw [tk_mul, tk_clear, sm_minus (on_smul cvc (tk_on p) 8) (smul_L8 (tk_on p))]
  rfl
theorem neg_clear (p : List Int) : clearV (negV p) = negV (clearV p) := by
  show ptL (smul Dc 8 (tkL (negV p))) = ptL (pneg (tkL (clearV p)))
  rw [tk_neg, tk_clear, smul_neg cvc (tk_on p)]
end Go.Nt
