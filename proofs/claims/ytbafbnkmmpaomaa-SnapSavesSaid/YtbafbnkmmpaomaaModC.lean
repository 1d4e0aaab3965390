/- Contracts of math/bits.Rem64 at P, mod.Mul, mod.Pow, mod.Inv. -/
import Derived.Test.YtbafbnkmmpaomaaModB
namespace Go.Proofs.Ytbafbnkmmpaomaa
open Go.RowKit
set_option linter.unusedVariables false

theorem rem64_any (hi lo : Nat) (hh : hi < 2305843009213693951) (hl : lo < 18446744073709551616) (w : World) :
    Calls Try.prog 41 #[.int .u64 (hi : Int), .int .u64 (lo : Int), .int .u64 2305843009213693951] w fun e w' => e = .returned (.int .u64 (((hi * 18446744073709551616 + lo) % 2305843009213693951 : Nat) : Int)) ∧ Qt w w' := by
  have em : (hi : Int) % 2305843009213693951 = (hi : Int) := by omega
  have D : Hid (Calls Try.prog 52 #[.int .u64 (hi : Int), .int .u64 (lo : Int), .int .u64 2305843009213693951] w (DivPost hi lo w)) := hid (by
    rcases Nat.eq_zero_or_pos hi with h | h
    · subst h; exact div64_low lo hl w
    · exact div64_high hi lo h hh hl w)
  obtain ⟨r, hr⟩ : ∃ r, r = (hi * 18446744073709551616 + lo) % 2305843009213693951 := ⟨_, rfl⟩
  have HR := hid hr
  rw [← hr]
  clear hr
  go_enter Try.func41, Try.ntmps41
  go_wp2_with fail
  refine D.out.mono ?_; rintro e w' ⟨q, rfl, j, rfl⟩
  rw [← HR.out]
  go_wp2
  go_ret
  exact ⟨rfl, j, rfl⟩
theorem mul_rem (a b : Nat) : (a % Md.P * (b % Md.P) / 18446744073709551616 * 18446744073709551616 + a % Md.P * (b % Md.P) % 18446744073709551616) % 2305843009213693951 = Md.mul a b := by
  rw [Nat.div_add_mod']; rfl
theorem mul_hi_lt (a b : Nat) : a % Md.P * (b % Md.P) / 18446744073709551616 < 2305843009213693951 := by
  have ha := Nat.mod_lt a Md.P_pos
  have hb := Nat.mod_lt b Md.P_pos
  rw [Md.P_eq] at *
  have : a % 2305843009213693951 * (b % 2305843009213693951) ≤ 2305843009213693951 * 2305843009213693951 := Nat.mul_le_mul (by omega) (by omega)
  omega
theorem modMul_any (a b : Nat) (ha : a < 18446744073709551616) (hb : b < 18446744073709551616) (w : World) :
    Calls Try.prog 22 #[.int .u64 (a : Int), .int .u64 (b : Int)] w fun e w' => e = .returned (.int .u64 ((Md.mul a b : Nat) : Int)) ∧ Qt w w' := by
  obtain ⟨x, hx⟩ : ∃ x, x = a % Md.P := ⟨_, rfl⟩
  obtain ⟨y, hy⟩ : ∃ y, y = b % Md.P := ⟨_, rfl⟩
  have lx : x < 18446744073709551616 := by rw [hx, Md.P_eq]; omega
  have ly : y < 18446744073709551616 := by rw [hy, Md.P_eq]; omega
  have HH := hid (mul_hi_lt a b)
  have HF := hid (mul_rem a b)
  rw [← hx, ← hy] at HH HF
  have HX := hid hx
  have HY := hid hy
  clear hx hy
  have HL : Hid (x * y % 18446744073709551616 < 18446744073709551616) := hid (Nat.mod_lt _ (by omega))
  go_enter Try.func22, Try.ntmps22
  go_wp2_with fail
  refine (modOf_any a ha _).mono ?_; rintro e w' ⟨rfl, rfl⟩
  rw [← HX.out]
  go_wp2_with fail
  refine (modOf_any b hb _).mono ?_; rintro e w' ⟨rfl, rfl⟩
  rw [← HY.out]
  go_wp2_with fail
  refine (mul64_any x y lx ly _).mono ?_; rintro e w' ⟨rfl, rfl⟩
  generalize x * y / 18446744073709551616 = hi at *
  generalize x * y % 18446744073709551616 = lo at *
  go_wp2_with fail
  refine (rem64_any hi lo HH.out HL.out _).mono ?_; rintro e w' ⟨rfl, hq⟩
  rw [HF.out]
  go_wp2
  go_ret
  exact ⟨rfl, hq⟩

theorem small_mul (a b : Nat) : Md.mul a b < 18446744073709551616 := by have := Md.mul_lt a b; rw [Md.P_eq] at this; omega
theorem small_add (a b : Nat) : Md.add a b < 18446744073709551616 := by have := Md.add_lt a b; rw [Md.P_eq] at this; omega
theorem small_sub (a b : Nat) : Md.sub a b < 18446744073709551616 := by have := Md.sub_lt a b; rw [Md.P_eq] at this; omega
theorem small_pow (a b : Nat) : Md.pow a b < 18446744073709551616 := by have := Md.pow_lt a b; rw [Md.P_eq] at this; omega
theorem small_inv (a : Nat) : Md.inv a < 18446744073709551616 := by have := Md.inv_lt a; rw [Md.P_eq] at this; omega
theorem small_of (a : Nat) : a % Md.P < 18446744073709551616 := by have := Nat.mod_lt a Md.P_pos; rw [Md.P_eq] at *; omega

set_option maxRecDepth 100000 in
theorem modPow_any (a n : Nat) (ha : a < 18446744073709551616) (hn : n < 18446744073709551616) (w : World) :
    Calls Try.prog 24 #[.int .u64 (a : Int), .int .u64 (n : Int)] w fun e w' => e = .returned (.int .u64 ((Md.pow a n : Nat) : Int)) ∧ Qt w w' := by
  obtain ⟨r, hr⟩ : ∃ r, r = Md.pow a n := ⟨_, rfl⟩
  have H0 : Hid (1 * (a % Md.P) ^ n % Md.P = r) := hid (by rw [hr, Nat.one_mul, ← Nat.pow_mod]; rfl)
  rw [← hr]
  have lo := small_of a
  clear hr
  have H1 : Hid ((1 : Nat) % Md.P = 1) := hid (Nat.mod_eq_of_lt Md.one_lt)
  go_enter Try.func24, Try.ntmps24
  go_wp2_with fail
  refine (modOf_any a ha _).mono ?_; rintro e w' ⟨rfl, rfl⟩
  generalize a % Md.P = s0 at *
  go_wp2_with fail
  go_loopw [1, 5, 6] (fun n5 p5 s5 wr => ∃ n' p s : Nat, n5 = .int .u64 (n' : Int) ∧ p5 = .int .u64 (p : Int) ∧ s5 = .int .u64 (s : Int) ∧ n' < 18446744073709551616 ∧ p < 18446744073709551616 ∧ s < 18446744073709551616 ∧ Hid (p % Md.P = p) ∧ Hid (p * s ^ n' % Md.P = r) ∧ Qt w wr) (fun n5 _ _ _ => (intOf n5).toNat)
  case atStart => exact ⟨n, 1, s0, rfl, by go_num, rfl, hn, by omega, lo, H1, H0, Qt.refl _⟩
  case round =>
    obtain ⟨n', p, s, rfl, rfl, rfl, bn, bp, bs, hp, hr, hq⟩ := hrel
    have HQ := hid hq
    clear hq H0 H1
    by_cases hz : n' = 0
    · subst hz
      have HF : Hid (p = r) := hid (by have := hr.out; rw [Nat.pow_zero, Nat.mul_one, hp.out] at this; exact this)
      go_wp2
      go_ret
      exact ⟨by rw [HF.out]; rfl, HQ.out⟩
    · have hz' : (0 : Int) < (n' : Int) := by omega
      have HS := hid (Md.pow_step p s n')
      have lm := small_mul p s
      have ls := small_mul s s
      have HM : Hid (Md.mul p s % Md.P = Md.mul p s) := hid (Nat.mod_eq_of_lt (Md.mul_lt p s))
      by_cases ho : n' % 2 = 1
      · have ho' : ((n' : Int) % 2 == 1) = true := by simp; omega
        have HO := hid ho
        clear ho
        go_wp2_with fail
        refine (modMul_any p s bp bs _).mono ?_; rintro e w1 ⟨rfl, hq1⟩
        go_wp2_with fail
        refine (modMul_any s s bs bs _).mono ?_; rintro e w2 ⟨rfl, hq2⟩
        have HE : Hid (Md.mul p s * Md.mul s s ^ (n' / 2) % Md.P = r) := hid (by have := HS.out; rw [if_pos HO.out, hr.out] at this; exact this)
        have HQ2 := hid ((HQ.out.trans hq1).trans hq2)
        clear hq1 hq2
        generalize Md.mul p s = p2 at *
        generalize Md.mul s s = s2 at *
        go_wp2_with fail
        go_roundw
        case rel => exact ⟨n' / 2, p2, s2, by go_num, rfl, rfl, by omega, lm, ls, HM, HE, HQ2.out⟩
        case measure => simp [intOf]; omega
      · have ho' : ((n' : Int) % 2 == 1) = false := by simp; omega
        have HO := hid ho
        clear ho
        go_wp2_with fail
        refine (modMul_any s s bs bs _).mono ?_; rintro e w2 ⟨rfl, hq2⟩
        have HE : Hid (p * Md.mul s s ^ (n' / 2) % Md.P = r) := hid (by have := HS.out; rw [if_neg HO.out, hr.out] at this; exact this)
        have HQ2 := hid (HQ.out.trans hq2)
        clear hq2
        generalize Md.mul s s = s2 at *
        go_wp2_with fail
        go_roundw
        case rel => exact ⟨n' / 2, p, s2, by go_num, rfl, rfl, by omega, bp, ls, hp, HE, HQ2.out⟩
        case measure => simp [intOf]; omega
theorem inv_num (a n : Nat) (h : n = Md.P - 2) : Md.pow a n = Md.inv a := by subst h; rfl
end Go.Proofs.Ytbafbnkmmpaomaa
