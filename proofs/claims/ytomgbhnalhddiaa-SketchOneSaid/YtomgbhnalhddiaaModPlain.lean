set_option linter.unusedVariables false
namespace Md

/-- The prime. -/
def P : Nat := 2305843009213693951
theorem P_eq : P = 2305843009213693951 := rfl
theorem P_pos : 0 < P := by rw [P_eq]; omega
theorem one_lt : 1 < P := by rw [P_eq]; omega

def add (a b : Nat) : Nat := (a % P + b % P) % P
def sub (a b : Nat) : Nat := (a % P + P - b % P) % P
def mul (a b : Nat) : Nat := (a % P) * (b % P) % P
def pow (a n : Nat) : Nat := a ^ n % P
def inv (a : Nat) : Nat := a ^ (P - 2) % P

theorem add_eq (a b : Nat) : add a b = (a + b) % P := by unfold add; rw [← Nat.add_mod]
theorem mul_eq (a b : Nat) : mul a b = a * b % P := by unfold mul; rw [← Nat.mul_mod]
theorem add_lt (a b : Nat) : add a b < P := Nat.mod_lt _ P_pos
theorem sub_lt (a b : Nat) : sub a b < P := Nat.mod_lt _ P_pos
theorem mul_lt (a b : Nat) : mul a b < P := Nat.mod_lt _ P_pos
theorem pow_lt (a n : Nat) : pow a n < P := Nat.mod_lt _ P_pos
theorem inv_lt (a : Nat) : inv a < P := Nat.mod_lt _ P_pos
theorem of_of (a : Nat) : a % P % P = a % P := Nat.mod_mod _ _
theorem of_lt {a : Nat} (h : a < P) : a % P = a := Nat.mod_eq_of_lt h

/-! ## The round of Pow -/
def pw : Nat → Nat → Nat → Nat → Nat
  | 0, p, _, _ => p
  | f + 1, p, s, n => if n = 0 then p else pw f (if n % 2 = 1 then mul p s else p) (mul s s) (n / 2)
theorem pow_half (s n : Nat) : s ^ n = (if n % 2 = 1 then s else 1) * (s * s) ^ (n / 2) := by
  have h := Nat.div_add_mod n 2
  rw [← Nat.pow_two, ← Nat.pow_mul]
  split
  · rename_i h1
    rw [Nat.mul_comm s, ← Nat.pow_succ]; congr 1; omega
  · rw [Nat.one_mul]; congr 1; omega
/-- What a round of Pow leaves the same. -/
theorem pow_step (p s n : Nat) : (if n % 2 = 1 then mul p s else p) * mul s s ^ (n / 2) % P = p * s ^ n % P := by
  rw [pow_half s n]
  split
  · rw [mul_eq, mul_eq, Nat.mul_mod, Nat.mod_mod, ← Nat.pow_mod, ← Nat.mul_mod, Nat.mul_assoc]
  · rw [mul_eq, Nat.mul_mod, ← Nat.pow_mod, ← Nat.mul_mod, Nat.one_mul]
theorem pw_eq (f p s n : Nat) (h : n < 2 ^ f) : pw f p s n % P = p * s ^ n % P := by
  induction f generalizing p s n with
  | zero => 
    have : n = 0 := by simpa using h
    subst this; simp [pw]
  | succ f ih =>
    unfold pw
    split
    · rename_i h0; subst h0; simp
    · rw [ih _ _ _ (by rw [Nat.pow_succ] at h; omega), pow_step]
theorem pw_pow (a n : Nat) (h : n < 2 ^ 64) : pw 64 1 a n % P = pow a n := by
  rw [pw_eq 64 1 a n h, Nat.one_mul]; rfl

/-! ## Sums and products -/
theorem pow_add (a n m : Nat) : mul (pow a n) (pow a m) = pow a (n + m) := by
  unfold pow; rw [mul_eq, ← Nat.mul_mod, ← Nat.pow_add]
theorem pow_pow (a n m : Nat) : pow (pow a n) m = pow a (n * m) := by
  unfold pow; rw [← Nat.pow_mod, Nat.pow_mul]
theorem pow_of (a n : Nat) : pow (a % P) n = pow a n := by unfold pow; rw [← Nat.pow_mod]
theorem inv_pow (a : Nat) : inv a = pow a (P - 2) := rfl
theorem inv_of (a : Nat) : inv (a % P) = inv a := pow_of _ _
theorem add_of (a b : Nat) : add (a % P) (b % P) = add a b := by unfold add; rw [Nat.mod_mod, Nat.mod_mod]
theorem sub_of (a b : Nat) : sub (a % P) (b % P) = sub a b := by unfold sub; rw [Nat.mod_mod, Nat.mod_mod]
theorem mul_of (a b : Nat) : mul (a % P) (b % P) = mul a b := by unfold mul; rw [Nat.mod_mod, Nat.mod_mod]
theorem add_comm (a b : Nat) : add a b = add b a := by rw [add_eq, add_eq, Nat.add_comm]
theorem mul_comm (a b : Nat) : mul a b = mul b a := by rw [mul_eq, mul_eq, Nat.mul_comm]
theorem add_assoc (a b c : Nat) : add (add a b) c = add a (add b c) := by
  simp only [add_eq]; rw [Nat.mod_add_mod, Nat.add_mod_mod, Nat.add_assoc]
theorem mul_assoc (a b c : Nat) : mul (mul a b) c = mul a (mul b c) := by
  simp only [mul_eq]; rw [Nat.mod_mul_mod, Nat.mul_mod_mod, Nat.mul_assoc]
theorem add_mul (a b c : Nat) : mul (add a b) c = add (mul a c) (mul b c) := by
  simp only [mul_eq, add_eq]; rw [Nat.mod_mul_mod, ← Nat.add_mod, Nat.add_mul]
theorem sub_add (a b : Nat) : add (sub a b) b = a % P := by
  unfold add sub; rw [Nat.mod_mod]
  have h := Nat.mod_lt b P_pos
  have e : (a % P + P - b % P) + b % P = a % P + P := by omega
  rw [Nat.mod_add_mod, e, Nat.add_mod_right, Nat.mod_mod]
theorem add_sub (a b : Nat) : sub (add a b) b = a % P := by
  unfold sub
  rw [add_eq, Nat.mod_mod]
  have h := Nat.mod_lt b P_pos
  have h2 := Nat.div_add_mod b P
  have e : (a + b) % P + P - b % P = (a + b) % P + (P - b % P) := by omega
  rw [e, Nat.mod_add_mod]
  have e2 : a + b + (P - b % P) = a + P * (b / P) + P := by omega
  rw [e2, Nat.add_mod_right, Nat.add_mul_mod_self_left]
theorem sub_sub_ (x y b : Nat) : sub (add x b) (add y b) = sub x y := by
  have h : add (sub (add x b) (add y b)) (add y b) = add (sub x y) (add y b) := by
    rw [sub_add, ← add_assoc, sub_add, Nat.mod_eq_of_lt (add_lt _ _)]
    unfold add; rw [Nat.mod_mod]
  have h2 := congrArg (fun t => sub t (add y b)) h
  simp only [add_sub] at h2
  rwa [of_lt (sub_lt _ _), of_lt (sub_lt _ _)] at h2
theorem mul_sub (a x y : Nat) : mul a (sub x y) = sub (mul a x) (mul a y) := by
  have h : add (mul a (sub x y)) (mul a y) = mul a x := by
    rw [mul_comm a, mul_comm a y, ← add_mul, sub_add, mul_comm a x]
    unfold mul; rw [Nat.mod_mod]
  have h2 := add_sub (mul a (sub x y)) (mul a y)
  rw [h, of_lt (mul_lt _ _)] at h2
  exact h2.symm
theorem mul_one (a : Nat) : mul a 1 = a % P := by rw [mul_eq, Nat.mul_one]

/-! ## Fermat -/
theorem inj_surj (n : Nat) (f : Nat → Nat) (hlt : ∀ i, i < n → f i < n) (hinj : ∀ i j, i < n → j < n → f i = f j → i = j) : ∀ y, y < n → ∃ i, i < n ∧ f i = y := by
  induction n generalizing f with
  | zero => intro y h; omega
  | succ n ih =>
    have hg := ih (fun i => if f i = n then f n else f i) (by
      intro i hi
      show (if f i = n then f n else f i) < n
      split
      · rename_i h
        have h1 := hlt n (by omega)
        rcases Nat.lt_or_ge (f n) n with h2 | h2
        · exact h2
        · have := hinj i n (by omega) (by omega) (by omega); omega
      · have := hlt i (by omega); omega) (by
      intro i j hi hj h
      replace h : (if f i = n then f n else f i) = (if f j = n then f n else f j) := h
      by_cases h1 : f i = n
      · rw [if_pos h1] at h
        by_cases h2 : f j = n
        · exact hinj i j (by omega) (by omega) (by omega)
        · rw [if_neg h2] at h
          have := hinj n j (by omega) (by omega) h; omega
      · rw [if_neg h1] at h
        by_cases h2 : f j = n
        · rw [if_pos h2] at h
          have := hinj i n (by omega) (by omega) h; omega
        · rw [if_neg h2] at h
          exact hinj i j (by omega) (by omega) h)
    intro y hy
    by_cases hyn : f n = y
    · exact ⟨n, by omega, hyn⟩
    rcases Nat.lt_or_ge y n with h | h
    · obtain ⟨i, hi, he⟩ := hg y h
      by_cases h1 : f i = n
      · rw [if_pos h1] at he; exact absurd he hyn
      · rw [if_neg h1] at he; exact ⟨i, by omega, he⟩
    · have : y = n := by omega
      subst this
      have h1 := hlt y (by omega)
      obtain ⟨i, hi, he⟩ := hg (f y) (by omega)
      replace he : (if f i = y then f y else f i) = f y := he
      by_cases h2 : f i = y
      · exact ⟨i, by omega, h2⟩
      · rw [if_neg h2] at he
        have := hinj i y (by omega) (by omega) he; omega

/-- A number all of whose powers but the last differ. -/
def gen : Nat := 37
def N : Nat := P - 1
theorem pwd (a n r : Nat) (h : n < 2 ^ 64) (e : pw 64 1 a n % P = r) : a ^ n % P = r := by rw [← e, pw_pow a n h]; rfl
theorem gen_N : gen ^ N % P = 1 := pwd _ _ _ (by decide) (by decide +kernel)
def qs : List Nat := [2, 3, 5, 7, 11, 13, 31, 41, 61, 151, 331, 1321]
theorem gen_q : ∀ q ∈ qs, gen ^ (N / q) % P ≠ 1 := by
  intro q hq
  have key : ∀ q ∈ qs, pw 64 1 gen (N / q) % P ≠ 1 := by decide +kernel
  have hb : N / q < 2 ^ 64 := Nat.lt_of_le_of_lt (Nat.div_le_self _ _) (by decide)
  rw [pwd gen (N / q) _ hb rfl]
  exact key q hq
theorem N_fac : N = 2 * 3 * 3 * 5 * 5 * 7 * 11 * 13 * 31 * 41 * 61 * 151 * 331 * 1321 := by decide +kernel
theorem cop_of {m q : Nat} (hq : ∀ d, d ∣ q → d = 1 ∨ d = q) (h : ¬ q ∣ m) : Nat.gcd m q = 1 := by
  rcases hq _ (Nat.gcd_dvd_right m q) with h1 | h1
  · exact h1
  · exact absurd (h1 ▸ Nat.gcd_dvd_left m q) h
theorem small_prime : ∀ q ∈ qs, ∀ d, d ∣ q → d = 1 ∨ d = q := by
  intro q hq d hd
  have key : ∀ q ∈ qs, q ≤ 1321 ∧ 0 < q := by decide
  have hle := Nat.le_of_dvd (key q hq).2 hd
  have key2 : ∀ q ∈ qs, ∀ d, d < 1322 → q % d = 0 → d = 1 ∨ d = q := by decide +kernel
  exact key2 q hq d (by have := (key q hq).1; omega) (Nat.mod_eq_zero_of_dvd hd)
/-- A proper part of N is a part of N / q for some prime q. -/
theorem exists_q {m : Nat} (h : m ∣ N) (h1 : m ≠ 1) : ∃ q ∈ qs, q ∣ m := by
  apply Classical.byContradiction
  intro hn
  have hc : ∀ q ∈ qs, Nat.gcd m q = 1 := fun q hq => cop_of (small_prime q hq) (fun hd => hn ⟨q, hq, hd⟩)
  have c : ∀ a b, Nat.gcd m a = 1 → Nat.gcd m b = 1 → Nat.gcd m (a * b) = 1 := fun a b ha hb => Nat.Coprime.mul_right ha hb
  have key : Nat.gcd m N = 1 := by
    rw [N_fac]
    have g := fun q (h : q ∈ qs) => hc q h
    refine c _ _ (c _ _ (c _ _ (c _ _ (c _ _ (c _ _ (c _ _ (c _ _ (c _ _ (c _ _ (c _ _ (c _ _ (c _ _ ?_ ?_) ?_) ?_) ?_) ?_) ?_) ?_) ?_) ?_) ?_) ?_) ?_) ?_
    all_goals exact hc _ (by decide)
  have := Nat.gcd_eq_left h
  omega
theorem cycle (d e : Nat) (hd : gen ^ d % P = 1) (he : gen ^ e % P = 1) : gen ^ Nat.gcd d e % P = 1 := by
  induction d, e using Nat.gcd.induction with
  | H0 n => rw [Nat.gcd_zero_left]; exact he
  | H1 m n hm ih =>
    rw [Nat.gcd_rec]
    refine ih ?_ hd
    have h := Nat.div_add_mod n m
    rw [← h, Nat.pow_add, Nat.pow_mul, Nat.mul_mod, Nat.pow_mod (gen ^ m), hd, Nat.one_pow, Nat.mod_eq_of_lt one_lt, Nat.one_mul, Nat.mod_mod] at he
    exact he
theorem no_cycle (d : Nat) (h0 : 0 < d) (hN : d < N) : gen ^ d % P ≠ 1 := by
  intro hd
  have hg := cycle d N hd gen_N
  have h1 := Nat.gcd_dvd_right d N
  have h2 := Nat.le_of_dvd h0 (Nat.gcd_dvd_left d N)
  obtain ⟨m, hm⟩ := h1
  generalize Nat.gcd d N = t at *
  have hm1 : m ≠ 1 := by rintro rfl; omega
  obtain ⟨q, hq, k, hk⟩ := exists_q (m := m) ⟨t, by rw [hm, Nat.mul_comm]⟩ hm1
  have hq0 : 0 < q := by
    have key : ∀ q ∈ qs, 0 < q := by decide
    exact key q hq
  refine gen_q q hq ?_
  have e : N / q = t * k := by
    rw [hm, hk, ← Nat.mul_assoc, Nat.mul_comm t q, Nat.mul_assoc, Nat.mul_div_cancel_left _ hq0]
  rw [e, Nat.pow_mul, Nat.pow_mod, hg, Nat.one_pow, Nat.mod_eq_of_lt one_lt]
theorem cancel (i j : Nat) (h : i ≤ j) (hj : j ≤ N) (he : gen ^ i % P = gen ^ j % P) : gen ^ (j - i) % P = 1 := by
  have e : gen ^ (N - i) * gen ^ i % P = gen ^ (N - i) * gen ^ j % P := by
    rw [Nat.mul_mod, he, ← Nat.mul_mod]
  rw [← Nat.pow_add, ← Nat.pow_add, show N - i + i = N by omega, show N - i + j = N + (j - i) by omega, gen_N, Nat.pow_add, Nat.mul_mod, gen_N, Nat.one_mul, Nat.mod_mod] at e
  exact e.symm
theorem inj_pow (i j : Nat) (hi : i < N) (hj : j < N) (h : gen ^ i % P = gen ^ j % P) : i = j := by
  rcases Nat.lt_trichotomy i j with h1 | h1 | h1
  · exact absurd (cancel i j (by omega) (by omega) h) (no_cycle _ (by omega) (by omega))
  · exact h1
  · exact absurd (cancel j i (by omega) (by omega) h.symm) (no_cycle _ (by omega) (by omega))
theorem pow_ne (i : Nat) (hi : i < N) : gen ^ i % P ≠ 0 := by
  intro h
  have e : gen ^ (N - i) * gen ^ i % P = 0 := by rw [Nat.mul_mod, h, Nat.mul_zero, Nat.zero_mod]
  rw [← Nat.pow_add, show N - i + i = N by omega, gen_N] at e
  omega
theorem N_eq : N = P - 1 := rfl
theorem is_pow (b : Nat) (h0 : b % P ≠ 0) : ∃ k, k < N ∧ gen ^ k % P = b % P := by
  have hb := Nat.mod_lt b P_pos
  have hN := N_eq
  obtain ⟨k, hk, he⟩ := inj_surj N (fun i => gen ^ i % P - 1) (fun i hi => by
      show gen ^ i % P - 1 < N
      have := Nat.mod_lt (gen ^ i) P_pos; have := pow_ne i hi; omega) (fun i j hi hj h => by
      replace h : gen ^ i % P - 1 = gen ^ j % P - 1 := h
      have := pow_ne i hi; have := pow_ne j hj
      exact inj_pow i j hi hj (by omega)) (b % P - 1) (by omega)
  replace he : gen ^ k % P - 1 = b % P - 1 := he
  have := pow_ne k hk
  exact ⟨k, hk, by omega⟩
/-- Fermat. -/
theorem fermat (b : Nat) (h : b % P ≠ 0) : b ^ N % P = 1 := by
  obtain ⟨k, hk, he⟩ := is_pow b h
  rw [Nat.pow_mod, ← he, ← Nat.pow_mod, ← Nat.pow_mul, Nat.mul_comm, Nat.pow_mul, Nat.pow_mod, gen_N, Nat.one_pow, Nat.mod_eq_of_lt one_lt]
theorem mul_inv_g (b k : Nat) (hk : k + 1 = N) (h : b % P ≠ 0) : mul b (b ^ k % P) = 1 := by
  rw [mul_eq, Nat.mul_mod_mod, Nat.mul_comm, ← Nat.pow_succ]
  rw [show k.succ = N from hk, fermat b h]
theorem mul_inv (b : Nat) (h : b % P ≠ 0) : mul b (inv b) = 1 := mul_inv_g b (P - 2) (by rw [N_eq, P_eq]) h
theorem inv_zero_g (b k : Nat) (h : b % P = 0) (hk : 0 < k) : b ^ k % P = 0 := by
  obtain ⟨j, rfl⟩ : ∃ j, k = j + 1 := ⟨k - 1, by omega⟩
  rw [Nat.pow_mod, h, Nat.pow_succ, Nat.mul_zero, Nat.zero_mod]
theorem inv_zero (b : Nat) (h : b % P = 0) : inv b = 0 := inv_zero_g b (P - 2) h (by rw [P_eq]; omega)
theorem inv_eval (a r : Nat) (h : pw 64 1 a (P - 2) % P = r) : inv a = r := pwd a (P - 2) r (by decide) h
theorem inv_ne (b : Nat) (h : b % P ≠ 0) : inv b % P ≠ 0 := by
  intro h0
  have := mul_inv b h
  unfold mul at this
  rw [h0, Nat.mul_zero, Nat.zero_mod] at this
  omega
theorem mul_back (a b : Nat) (h : b % P ≠ 0) : mul (mul a b) (inv b) = a % P := by
  rw [mul_assoc, mul_inv b h, mul_one]
theorem inv_inv (b : Nat) (h : b % P ≠ 0) : inv (inv b) = b % P := by
  have h1 := mul_back b (inv b) (inv_ne b h)
  rw [mul_inv b h] at h1
  rw [mul_comm, mul_one, of_lt (inv_lt _)] at h1
  exact h1
theorem inv_two : inv 2 = 1152921504606846976 := by
  exact inv_eval 2 _ (by decide +kernel)
theorem half_twice (a : Nat) : add (mul a (inv 2)) (mul a (inv 2)) = a % P := by
  rw [inv_two, add_eq, ← Nat.two_mul, mul_eq, Nat.mul_mod_mod, show 2 * (a * 1152921504606846976) = a + P * a by rw [P_eq]; omega, Nat.add_mul_mod_self_left]
theorem twice (a : Nat) : add a a = mul 2 a := by rw [add_eq, mul_eq, Nat.two_mul]
theorem mul_zero (a b : Nat) (h : b % P = 0) : mul a b = 0 := by unfold mul; rw [h, Nat.mul_zero, Nat.zero_mod]
end Md
