/- Contracts of math/bits.Rem64 at P, mod.Mul, mod.Pow, mod.Inv. -/
import Derived.Test.YtomgbhnalhddiaaModB
namespace Go.Proofs.Ytomgbhnalhddiaa
open Go.RowKit
set_option linter.unusedVariables false

theorem rem64_any (hi lo : Nat) (hh : hi < 2305843009213693951) (hl : lo < 18446744073709551616) (w : World) :
    Calls Try.prog 33 #[.int .u64 (hi : Int), .int .u64 (lo : Int), .int .u64 2305843009213693951] w fun e w' => e = .returned (.int .u64 (((hi * 18446744073709551616 + lo) % 2305843009213693951 : Nat) : Int)) ∧ Qt w w' := by
  have em : (hi : Int) % 2305843009213693951 = (hi : Int) := by omega
  have D : Hid (Calls Try.prog 34 #[.int .u64 (hi : Int), .int .u64 (lo : Int), .int .u64 2305843009213693951] w (DivPost hi lo w)) := hid (by
    rcases Nat.eq_zero_or_pos hi with h | h
    · subst h; exact div64_low lo hl w
    · exact div64_high hi lo h hh hl w)
  obtain ⟨r, hr⟩ : ∃ r, r = (hi * 18446744073709551616 + lo) % 2305843009213693951 := ⟨_, rfl⟩
  have HR := hid hr
  rw [← hr]
  clear hr
  go_enter Try.func33, Try.ntmps33
  go_wp2_with fail
  refine D.out.mono ?_; rintro e w' ⟨q, rfl, j, rfl⟩
  rw [← HR.out]
  go_wp2
  go_ret
  exact ⟨rfl, j, rfl⟩
theorem mul_rem (a b : Nat) : (a % Md.P * (b % Md.P) / 18446744073709551616 * 18446744073709551616 + a % Md.P * (b % Md.P) % 18446744073709551616) % 2305843009213693951 = Md.mul a b := by
  rw [Nat.div_add_mod']; rfl
theorem mul_hi_lt (a b : Nat) : a % Md.P * (b % Md.P) / 18446744073709551616 < 2305843009213693951 := by
  have ha := Nat.mod_lt a Md.P_pos
  have hb := Nat.mod_lt b Md.P_pos
  rw [Md.P_eq] at *
  have : a % 2305843009213693951 * (b % 2305843009213693951) ≤ 2305843009213693951 * 2305843009213693951 := Nat.mul_le_mul (by omega) (by omega)
  omega
theorem modMul_any (a b : Nat) (ha : a < 18446744073709551616) (hb : b < 18446744073709551616) (w : World) :
    Calls Try.prog 30 #[.int .u64 (a : Int), .int .u64 (b : Int)] w fun e w' => e = .returned (.int .u64 ((Md.mul a b : Nat) : Int)) ∧ Qt w w' := by
  obtain ⟨x, hx⟩ : ∃ x, x = a % Md.P := ⟨_, rfl⟩
  obtain ⟨y, hy⟩ : ∃ y, y = b % Md.P := ⟨_, rfl⟩
  have lx : x < 18446744073709551616 := by rw [hx, Md.P_eq]; omega
  have ly : y < 18446744073709551616 := by rw [hy, Md.P_eq]; omega
  have HH := hid (mul_hi_lt a b)
  have HF := hid (mul_rem a b)
  rw [← hx, ← hy] at HH HF
  have HX := hid hx
  have HY := hid hy
  clear hx hy
  have HL : Hid (x * y % 18446744073709551616 < 18446744073709551616) := hid (Nat.mod_lt _ (by omega))
  go_enter Try.func30, Try.ntmps30
  go_wp2_with fail
  refine (modOf_any a ha _).mono ?_; rintro e w' ⟨rfl, rfl⟩
  rw [← HX.out]
  go_wp2_with fail
  refine (modOf_any b hb _).mono ?_; rintro e w' ⟨rfl, rfl⟩
  rw [← HY.out]
  go_wp2_with fail
  refine (mul64_any x y lx ly _).mono ?_; rintro e w' ⟨rfl, rfl⟩
  generalize x * y / 18446744073709551616 = hi at *
  generalize x * y % 18446744073709551616 = lo at *
  go_wp2_with fail
  refine (rem64_any hi lo HH.out HL.out _).mono ?_; rintro e w' ⟨rfl, hq⟩
  rw [HF.out]
  go_wp2
  go_ret
  exact ⟨rfl, hq⟩

theorem small_mul (a b : Nat) : Md.mul a b < 18446744073709551616 := by have := Md.mul_lt a b; rw [Md.P_eq] at this; omega
theorem small_add (a b : Nat) : Md.add a b < 18446744073709551616 := by have := Md.add_lt a b; rw [Md.P_eq] at this; omega
theorem small_sub (a b : Nat) : Md.sub a b < 18446744073709551616 := by have := Md.sub_lt a b; rw [Md.P_eq] at this; omega
theorem small_pow (a b : Nat) : Md.pow a b < 18446744073709551616 := by have := Md.pow_lt a b; rw [Md.P_eq] at this; omega
theorem small_inv (a : Nat) : Md.inv a < 18446744073709551616 := by have := Md.inv_lt a; rw [Md.P_eq] at this; omega
theorem small_of (a : Nat) : a % Md.P < 18446744073709551616 := by have := Nat.mod_lt a Md.P_pos; rw [Md.P_eq] at *; omega

theorem inv_num (a n : Nat) (h : n = Md.P - 2) : Md.pow a n = Md.inv a := by subst h; rfl
end Go.Proofs.Ytomgbhnalhddiaa
