import Derived.Test.YtomgbhnalhddiaaModPlain
set_option linter.unusedVariables false
namespace Md

/-- A round of the reference's product: one bit more of b. -/
theorem bit_step (a b k : Nat) : (if b / 2 ^ k % 2 = 1 then add (add (a * (b / 2 ^ (k + 1)) % P) (a * (b / 2 ^ (k + 1)) % P)) a else add (a * (b / 2 ^ (k + 1)) % P) (a * (b / 2 ^ (k + 1)) % P)) = a * (b / 2 ^ k) % P := by
  have h := Nat.div_add_mod (b / 2 ^ k) 2
  have e : b / 2 ^ (k + 1) = b / 2 ^ k / 2 := by rw [Nat.pow_succ, Nat.div_div_eq_div_mul]
  rw [e]
  generalize b / 2 ^ k = c at *
  have hm := Nat.mod_lt c (show 0 < 2 by omega)
  split
  · rename_i h1
    rw [h1] at h
    rw [add_eq, add_eq, ← Nat.add_mod, Nat.mod_add_mod]
    congr 1
    rw [← Nat.mul_add, ← Nat.mul_add_one]; congr 1; omega
  · rename_i h1
    rw [add_eq, ← Nat.add_mod]
    congr 1
    rw [← Nat.mul_add]; congr 1; omega
theorem bit_start (a b : Nat) (h : b < 2 ^ 61) : a * (b / 2 ^ 61) % P = 0 := by
  rw [Nat.div_eq_of_lt h, Nat.mul_zero, Nat.zero_mod]
theorem bit_end (a b : Nat) : (a % P) * (b % P / 2 ^ 0) % P = mul a b := by rw [Nat.pow_zero, Nat.div_one]; rfl

/-! ## Division of 128 bits by P: the school's steps, at base 2^32 -/
/-- q is no less than the quotient, and what it leaves is r. -/
def QR (u v q r : Nat) : Prop := q * 4294967295 + r = u ∧ (u * 4294967296 + v) / 18446744073709551608 ≤ q ∧ q ≤ 4294967297
theorem qr_start (u v : Nat) (hu : u < 18446744073709551608) (hv : v < 4294967296) : QR u v (u / 4294967295) (u - u / 4294967295 * 4294967295) := by
  refine ⟨by omega, ?_, by omega⟩
  omega
theorem qr_down {u v q r : Nat} (hu : u < 18446744073709551608) (hv : v < 4294967296) (h : QR u v q r) (ht : 4294967296 ≤ q ∨ 4294967296 * r + v < q * 4294967288) : 0 < q ∧ QR u v (q - 1) (r + 4294967295) := by
  obtain ⟨h1, h2, h3⟩ := h
  unfold QR
  omega
theorem qr_stop {u v q r : Nat} (hu : u < 18446744073709551608) (hv : v < 4294967296) (h : QR u v q r) (ht : ¬ (4294967296 * r + v < q * 4294967288)) : q = (u * 4294967296 + v) / 18446744073709551608 := by
  obtain ⟨h1, h2, h3⟩ := h
  omega
theorem qr_break {u v q r : Nat} (hu : u < 18446744073709551608) (hv : v < 4294967296) (h : QR u v q r) (hq : q ≤ 4294967296) (hr : 4294967296 ≤ r) : q = (u * 4294967296 + v) / 18446744073709551608 := by
  obtain ⟨h1, h2, h3⟩ := h
  omega
/-- What is left of the first step, and of the second. -/
theorem left_one (u v q : Nat) (hu : u < 18446744073709551608) (hv : v < 4294967296) (hq : q = (u * 4294967296 + v) / 18446744073709551608) :
    u * 4294967296 + v - q * 18446744073709551608 = (u * 4294967296 + v) % 18446744073709551608 ∧ q * 18446744073709551608 ≤ u * 4294967296 + v := by omega
theorem rem_all (hi lo : Nat) (h : hi < 2305843009213693951) (hl : lo < 18446744073709551616) (u un10 un1 un0 r1 r2 : Nat) (hu : u = hi * 8 + lo / 2305843009213693952) (h10 : un10 = lo * 8 % 18446744073709551616)
    (h1 : un1 = un10 / 4294967296) (h0 : un0 = un10 % 4294967296) (hr1 : r1 = (u * 4294967296 + un1) % 18446744073709551608) (hr2 : r2 = (r1 * 4294967296 + un0) % 18446744073709551608) :
    r2 / 8 = (hi * 18446744073709551616 + lo) % 2305843009213693951 := by
  subst hu h10 h1 h0 hr1 hr2
  omega
end Md
