/- Plain numbers: primes, Fermat's little theorem, and a test by which great numbers are seen to be primes. No program in sight. -/
namespace Go.Nt

def Prime (p : Nat) : Prop := 2 ≤ p ∧ ∀ m, m ∣ p → m = 1 ∨ m = p

theorem Prime.coprime {p a : Nat} (h : Prime p) (ha : ¬ p ∣ a) : Nat.gcd p a = 1 := by
  rcases h.2 (Nat.gcd p a) (Nat.gcd_dvd_left p a) with e | e
  · exact e
  · exact absurd (e ▸ Nat.gcd_dvd_right p a) ha

theorem Prime.dvd_mul {p a b : Nat} (h : Prime p) (hd : p ∣ a * b) : p ∣ a ∨ p ∣ b := by
  by_cases ha : p ∣ a
  · exact .inl ha
  · exact .inr (Nat.Coprime.dvd_of_dvd_mul_left (h.coprime ha) hd)

theorem Prime.dvd_pow {p a : Nat} (h : Prime p) : ∀ n, p ∣ a ^ n → p ∣ a
  | 0, hd => by
    rw [Nat.pow_zero] at hd
    have := Nat.le_of_dvd (by decide) hd
    have := h.1
    omega
  | n + 1, hd => by
    rw [Nat.pow_succ] at hd
    rcases h.dvd_mul hd with h1 | h1
    · exact h.dvd_pow n h1
    · exact h1

theorem exists_prime : ∀ n : Nat, 2 ≤ n → ∃ p, Prime p ∧ p ∣ n := by
  intro n
  induction n using Nat.strongRecOn with
  | _ n ih =>
    intro h2
    by_cases h : ∀ m, m ∣ n → m = 1 ∨ m = n
    · exact ⟨n, ⟨h2, h⟩, Nat.dvd_refl n⟩
    · have : ∃ m, m ∣ n ∧ m ≠ 1 ∧ m ≠ n := by
        apply Classical.byContradiction
        intro hc
        refine h fun m hm => ?_
        by_cases h1 : m = 1
        · exact .inl h1
        · by_cases h3 : m = n
          · exact .inr h3
          · exact absurd ⟨m, hm, h1, h3⟩ hc
      obtain ⟨m, hm, h1, h3⟩ := this
      have hpos : 0 < m := Nat.pos_of_dvd_of_pos hm (by omega)
      have hle := Nat.le_of_dvd (by omega) hm
      obtain ⟨p, hp, hd⟩ := ih m (by omega) (by omega)
      exact ⟨p, hp, Nat.dvd_trans hd hm⟩

/-! ### Lists without repetition -/
theorem perm_of_nodup {α : Type} [DecidableEq α] : ∀ {l m : List α}, l.Nodup → (∀ x ∈ l, x ∈ m) → m.length ≤ l.length → l.Perm m
  | [], m, _, _, hlen => by
    cases m with
    | nil => exact .nil
    | cons a m => simp at hlen
  | a :: l, m, hl, hs, hlen => by
    have ha := hs a (by simp)
    have p := List.perm_cons_erase ha
    obtain ⟨hna, hl'⟩ := List.nodup_cons.1 hl
    refine .trans (.cons a (perm_of_nodup (m := m.erase a) hl' (fun x hx => ?_) ?_)) p.symm
    · have hne : x ≠ a := fun e => hna (e ▸ hx)
      exact (List.mem_erase_of_ne hne).2 (hs x (by simp [hx]))
    · rw [List.length_erase_of_mem ha]
      simp at hlen
      omega

def prodL : List Nat → Nat
  | [] => 1
  | x :: l => x * prodL l

theorem prodL_perm {l m : List Nat} (h : l.Perm m) : prodL l = prodL m := by
  induction h with
  | nil => rfl
  | cons x _ ih => simp [prodL, ih]
  | swap x y l => simp only [prodL]; rw [← Nat.mul_assoc, ← Nat.mul_assoc, Nat.mul_comm x y]
  | trans _ _ ih1 ih2 => exact ih1.trans ih2

theorem prodL_map (p a : Nat) : ∀ l : List Nat, prodL (l.map fun i => a * i % p) % p = a ^ l.length * prodL l % p
  | [] => by simp [prodL]
  | x :: l => by
    have ih := prodL_map p a l
    simp only [List.map_cons, prodL, List.length_cons]
    rw [Nat.mul_mod, Nat.mod_mod, ih, ← Nat.mul_mod]
    congr 1
    rw [Nat.pow_succ]
    simp only [Nat.mul_assoc, Nat.mul_comm, Nat.mul_left_comm]

theorem prime_prodL {p : Nat} (hp : Prime p) : ∀ l : List Nat, (∀ x ∈ l, ¬ p ∣ x) → ¬ p ∣ prodL l
  | [], _, h => by
    simp only [prodL] at h
    have := Nat.le_of_dvd (by decide) h
    have := hp.1
    omega
  | x :: l, hl, h => by
    rcases hp.dvd_mul h with h | h
    · exact hl x (by simp) h
    · exact prime_prodL hp l (fun y hy => hl y (by simp [hy])) h

theorem dvd_of_mod_eq {p x y : Nat} (h : x % p = y % p) (_ : y ≤ x) : p ∣ x - y := Nat.dvd_of_mod_eq_zero (Nat.sub_mod_eq_zero_of_mod_eq h)

theorem mul_inj {p a i j : Nat} (hp : Prime p) (ha : ¬ p ∣ a) (hi : i < p) (hj : j < p) (h : a * i % p = a * j % p) : i = j := by
  have key : ∀ i j : Nat, i < p → i ≤ j → j < p → a * i % p = a * j % p → i = j := by
    intro i j hi hle hj h
    have hd := dvd_of_mod_eq h.symm (Nat.mul_le_mul_left a hle)
    rw [← Nat.mul_sub] at hd
    rcases hp.dvd_mul hd with h1 | h1
    · exact absurd h1 ha
    · rcases Nat.eq_zero_or_pos (j - i) with h0 | h0
      · omega
      · have := Nat.le_of_dvd h0 h1
        omega
  rcases Nat.le_total i j with h' | h'
  · exact key i j hi h' hj h
  · exact (key j i hj h' hi h.symm).symm

/-- **Fermat's little theorem.** -/
theorem fermat {p a : Nat} (hp : Prime p) (ha : ¬ p ∣ a) : a ^ (p - 1) % p = 1 := by
  have h2 := hp.1
  have mem : ∀ x, x ∈ List.range' 1 (p - 1) ↔ 1 ≤ x ∧ x < p := by
    intro x; rw [List.mem_range'_1]; omega
  have hperm : ((List.range' 1 (p - 1)).map fun i => a * i % p).Perm (List.range' 1 (p - 1)) := by
    refine perm_of_nodup ?_ ?_ (by simp)
    · rw [List.Nodup, List.pairwise_map]
      refine List.Pairwise.imp_of_mem (fun {x y} hx hy hne he => hne (mul_inj hp ha ((mem x).1 hx).2 ((mem y).1 hy).2 he)) (List.nodup_range' (s := 1) (n := p - 1))
    · intro x hx
      rw [List.mem_map] at hx
      obtain ⟨i, hi, rfl⟩ := hx
      rw [mem] at hi ⊢
      refine ⟨?_, Nat.mod_lt _ (by omega)⟩
      apply Nat.pos_of_ne_zero
      intro h0
      rcases hp.dvd_mul (Nat.dvd_of_mod_eq_zero h0) with h | h
      · exact ha h
      · have := Nat.le_of_dvd (by omega) h
        omega
  have h1 := prodL_map p a (List.range' 1 (p - 1))
  rw [prodL_perm hperm, List.length_range'] at h1
  have hn : ¬ p ∣ prodL (List.range' 1 (p - 1)) := prime_prodL hp _ fun x hx h => by
    have := (mem x).1 hx
    have := Nat.le_of_dvd (by omega) h
    omega
  have h3 : prodL (List.range' 1 (p - 1)) * (a ^ (p - 1) % p) % p = prodL (List.range' 1 (p - 1)) * 1 % p := by
    rw [Nat.mul_mod, Nat.mod_mod, ← Nat.mul_mod, Nat.mul_one, Nat.mul_comm]; exact h1.symm
  exact mul_inj hp hn (Nat.mod_lt _ (by omega)) (by omega) h3

/-! ### Orders -/
theorem pow_mod_pow (p a m : Nat) (h : a ^ m % p = 1 % p) (k : Nat) : a ^ (m * k) % p = 1 % p := by
  induction k with
  | zero => simp
  | succ k ih => rw [Nat.mul_succ, Nat.pow_add, Nat.mul_mod, ih, h, ← Nat.mul_mod, Nat.mul_one]

theorem pow_gcd (p a m n : Nat) : a ^ m % p = 1 % p → a ^ n % p = 1 % p → a ^ Nat.gcd m n % p = 1 % p := by
  induction m, n using Nat.gcd.induction with
  | H0 n => intro _ h; rw [Nat.gcd_zero_left]; exact h
  | H1 m n hpos ih =>
    intro hm hn
    rw [Nat.gcd_rec]
    refine ih ?_ hm
    have h1 := pow_mod_pow p a m hm (n / m)
    have h2 : a ^ n = a ^ (m * (n / m)) * a ^ (n % m) := by rw [← Nat.pow_add, Nat.div_add_mod]
    rw [h2, Nat.mul_mod, h1, ← Nat.mul_mod, Nat.one_mul] at hn
    exact hn

theorem mod_of_dvd {p N x y : Nat} (hd : p ∣ N) (h : x % N = y % N) : x % p = y % p := by
  rw [← Nat.mod_mod_of_dvd x hd, h, Nat.mod_mod_of_dvd y hd]

/-- Of a prime divisor p of N: q divides p - 1. -/
theorem pock1 {N p q a : Nat} (hN : 2 ≤ N) (hp : Prime p) (hpN : p ∣ N) (hq : Prime q) (hqN : q ∣ N - 1) (h1 : a ^ (N - 1) % N = 1) (h2 : Nat.gcd (a ^ ((N - 1) / q) % N + (N - 1)) N = 1) : q ∣ p - 1 := by
  apply Classical.byContradiction
  intro hno
  have hp2 := hp.1
  obtain ⟨m, hm⟩ := hqN
  have hq0 : 0 < q := by have := hq.1; omega
  have hmq : (N - 1) / q = m := by rw [hm, Nat.mul_div_cancel_left m hq0]
  rw [hmq] at h2
  have h1p : a ^ (N - 1) % p = 1 % p := mod_of_dvd hpN (by rw [h1, Nat.mod_eq_of_lt (by omega)])
  have hap : ¬ p ∣ a ^ m := by
    intro hd
    have : p ∣ a ^ (N - 1) := by
      obtain ⟨q', rfl⟩ : ∃ q', q = q' + 1 := ⟨q - 1, by omega⟩
      rw [hm, Nat.mul_comm, Nat.pow_mul, Nat.pow_succ]
      exact Nat.dvd_trans hd (Nat.dvd_mul_left _ _)
    rw [Nat.mod_eq_zero_of_dvd this, Nat.mod_eq_of_lt (by omega)] at h1p
    cases h1p
  have y1 : (a ^ m) ^ q % p = 1 % p := by rw [← Nat.pow_mul, Nat.mul_comm, ← hm]; exact h1p
  have y2 : (a ^ m) ^ (p - 1) % p = 1 % p := by rw [fermat hp hap, Nat.mod_eq_of_lt (by omega)]
  have y3 := pow_gcd p (a ^ m) q (p - 1) y1 y2
  rw [hq.coprime hno, Nat.pow_one] at y3
  have hd : p ∣ a ^ m % N + (N - 1) := by
    refine Nat.dvd_of_mod_eq_zero ?_
    rw [Nat.add_mod, Nat.mod_mod_of_dvd _ hpN, y3, ← Nat.add_mod, show 1 + (N - 1) = N by omega]
    exact Nat.mod_eq_zero_of_dvd hpN
  have := Nat.le_of_dvd (by decide) (h2 ▸ Nat.dvd_gcd hd hpN)
  omega

/-! ### The test -/
/-- A power modulo N, by bits. -/
def pmn (a N : Nat) : Nat → Nat → Nat
  | 0, _ => 1 % N
  | f + 1, e => match Nat.beq e 0 with
    | true => 1 % N
    | false => match Nat.beq (e % 2) 1 with
      | true => (fun r => r * r % N * a % N) (pmn a N f (e / 2))
      | false => (fun r => r * r % N) (pmn a N f (e / 2))

theorem pmn_eq (a N : Nat) : ∀ (f e : Nat), e < 2 ^ f → pmn a N f e = a ^ e % N
  | 0, e, h => by
    have : e = 0 := by simp at h; exact h
    subst this; simp [pmn]
  | f + 1, e, h => by
    have ih := pmn_eq a N f (e / 2) (by rw [Nat.pow_succ] at h; omega)
    have hsq : (a ^ (e / 2) % N) * (a ^ (e / 2) % N) % N = a ^ (2 * (e / 2)) % N := by
      rw [← Nat.mul_mod, ← Nat.pow_add]; congr 2; omega
    unfold pmn
    split
    · rename_i h0; have := Nat.eq_of_beq_eq_true h0; subst this; simp
    · split
      · rename_i h1
        have h1 := Nat.eq_of_beq_eq_true h1
        rw [ih]
        show (a ^ (e / 2) % N) * (a ^ (e / 2) % N) % N * a % N = a ^ e % N
        rw [hsq, Nat.mul_mod, Nat.mod_mod, ← Nat.mul_mod, ← Nat.pow_succ]
        congr 2; omega
      · rename_i h1
        have h1 : ¬ e % 2 = 1 := fun hc => by rw [hc] at h1; simp at h1
        rw [ih]
        show (a ^ (e / 2) % N) * (a ^ (e / 2) % N) % N = a ^ e % N
        rw [hsq]
        congr 2; omega

/-- One row of a certificate: a prime q, and its witness a. -/
def rowOk (N : Nat) (q a : Nat) : Bool :=
  Nat.beq ((N - 1) % q) 0 && Nat.beq (pmn a N 300 (N - 1)) 1 && Nat.beq (Nat.gcd (pmn a N 300 ((N - 1) / q) + (N - 1)) N) 1

def rowsOk (N : Nat) : List (Nat × Nat) → Bool
  | [] => true
  | (q, a) :: l => rowOk N q a && Nat.beq (Nat.gcd q (prodL (l.map (·.1)))) 1 && rowsOk N l

def certOk (N : Nat) (l : List (Nat × Nat)) : Bool :=
  Nat.ble 2 N && Nat.blt N (2 ^ 300) && rowsOk N l && Nat.ble N (prodL (l.map (·.1)) * prodL (l.map (·.1)))

theorem rows_dvd {N p : Nat} (hN : 2 ≤ N) (hlt : N < 2 ^ 300) (hp : Prime p) (hpN : p ∣ N) : ∀ l : List (Nat × Nat), rowsOk N l = true → (∀ x ∈ l, Prime x.1) → prodL (l.map (·.1)) ∣ p - 1
  | [], _, _ => by simp [prodL]
  | (q, a) :: l, h, hl => by
    simp only [rowsOk, rowOk, Bool.and_eq_true, Nat.beq_eq] at h
    obtain ⟨⟨⟨⟨h0, h1⟩, h2⟩, h3⟩, h4⟩ := h
    have hq := hl (q, a) (by simp)
    rw [pmn_eq _ _ _ _ (by omega)] at h1
    rw [pmn_eq _ _ _ _ (Nat.lt_of_le_of_lt (Nat.div_le_self _ _) (by omega))] at h2
    have ih := rows_dvd hN hlt hp hpN l h4 (fun x hx => hl x (by simp [hx]))
    exact Nat.Coprime.mul_dvd_of_dvd_of_dvd h3 (pock1 hN hp hpN hq (Nat.dvd_of_mod_eq_zero h0) h1 h2) ih

/-- **A number with a certificate is a prime.** -/
theorem prime_of_cert {N : Nat} (l : List (Nat × Nat)) (h : certOk N l = true) (hl : ∀ x ∈ l, Prime x.1) : Prime N := by
  simp only [certOk, Bool.and_eq_true] at h
  obtain ⟨⟨⟨h1, h2⟩, h3⟩, h4⟩ := h
  have h1 : 2 ≤ N := Nat.le_of_ble_eq_true h1
  have h2 : N < 2 ^ 300 := Nat.le_of_ble_eq_true h2
  have h4 := Nat.le_of_ble_eq_true h4
  have big : ∀ m, m ∣ N → m ≠ 1 → prodL (l.map (·.1)) < m := by
    intro m hm hne
    have hm0 : 0 < m := Nat.pos_of_dvd_of_pos hm (by omega)
    obtain ⟨p, hp, hd⟩ := exists_prime m (by omega)
    have hF := rows_dvd h1 h2 hp (Nat.dvd_trans hd hm) l h3 hl
    have := hp.1
    have h5 := Nat.le_of_dvd (by omega) hF
    have h6 := Nat.le_of_dvd hm0 hd
    omega
  refine ⟨h1, fun m hm => ?_⟩
  by_cases e1 : m = 1
  · exact .inl e1
  · right
    obtain ⟨k, hk⟩ := hm
    by_cases e2 : k = 1
    · rw [hk, e2, Nat.mul_one]
    · exfalso
      have a1 := big m ⟨k, hk⟩ e1
      have a2 := big k ⟨m, by rw [hk, Nat.mul_comm]⟩ e2
      have := Nat.mul_lt_mul'' a1 a2
      omega

/-- Small primes, by trial. -/
def trialF (n : Nat) : Nat → Nat → Bool
  | 0, k => Nat.blt n (k * k)
  | f + 1, k => match Nat.blt n (k * k) with
    | true => true
    | false => match Nat.beq (n % k) 0 with
      | true => false
      | false => trialF n f (k + 1)

theorem trialF_spec (n : Nat) : ∀ (f k : Nat), trialF n f k = true → ∀ m, k ≤ m → m * m ≤ n → ¬ m ∣ n
  | 0, k, h, m, hk, hm, _ => by
    have h : n < k * k := Nat.le_of_ble_eq_true h
    have := Nat.mul_le_mul hk hk
    omega
  | f + 1, k, h, m, hk, hm, hd => by
    simp only [trialF] at h
    split at h
    · rename_i h1
      have h1 : n < k * k := Nat.le_of_ble_eq_true h1
      have := Nat.mul_le_mul hk hk
      omega
    · split at h
      · cases h
      · rename_i h2
        by_cases e : m = k
        · subst e
          rw [Nat.mod_eq_zero_of_dvd hd] at h2
          cases h2
        · exact trialF_spec n f (k + 1) h m (by omega) hm hd

theorem prime_of_trial {n : Nat} (f : Nat) (h : (Nat.ble 2 n && trialF n f 2) = true) : Prime n := by
  simp only [Bool.and_eq_true] at h
  have h1 : 2 ≤ n := Nat.le_of_ble_eq_true h.1
  have h2 := trialF_spec n f 2 h.2
  refine ⟨h1, fun m hm => ?_⟩
  obtain ⟨k, hk⟩ := hm
  by_cases e1 : m = 1
  · exact .inl e1
  · right
    by_cases e2 : k = 1
    · rw [hk, e2, Nat.mul_one]
    · exfalso
      have hm0 : m ≠ 0 := fun e => by rw [hk, e, Nat.zero_mul] at h1; omega
      have hk0 : k ≠ 0 := fun e => by rw [hk, e, Nat.mul_zero] at h1; omega
      rcases Nat.le_total m k with hle | hle
      · exact h2 m (by omega) (by rw [hk]; exact Nat.mul_le_mul_left m hle) ⟨k, hk⟩
      · exact h2 k (by omega) (by rw [hk]; exact Nat.mul_le_mul_right k hle) ⟨m, by rw [hk, Nat.mul_comm]⟩
end Go.Nt
