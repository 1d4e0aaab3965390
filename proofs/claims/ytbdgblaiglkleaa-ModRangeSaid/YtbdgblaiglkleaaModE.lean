/- Walks of the laws of Mod without the document's answer. -/
import Derived.Test.YtbdgblaiglkleaaModD
namespace Go.Proofs.Ytbdgblaiglkleaa
open Go.RowKit
set_option linter.unusedVariables false

theorem modExponents_walk (a n m : Int) (w : World) (ha : 0 ≤ a ∧ a ≤ 18446744073709551615) (hn : 0 ≤ n ∧ n ≤ 4294967295) (hm : 0 ≤ m ∧ m ≤ 4294967295) :
    Calls Try.prog 3 #[.int .u64 a, .int .u32 n, .int .u32 m] w (IsTrue w) := by
  obtain ⟨a, rfl⟩ := Int.eq_ofNat_of_zero_le ha.1
  obtain ⟨n, rfl⟩ := Int.eq_ofNat_of_zero_le hn.1
  obtain ⟨m, rfl⟩ := Int.eq_ofNat_of_zero_le hm.1
  obtain ⟨-, ha⟩ := ha
  obtain ⟨hn0, hn⟩ := hn
  obtain ⟨hm0, hm⟩ := hm
  have hnm : n * m ≤ 4294967295 * 4294967295 := Nat.mul_le_mul (by omega) (by omega)
  have hnm' : (n : Int) * (m : Int) ≤ 18446744065119617025 := by rw [← Int.natCast_mul]; omega
  have hnm0 : (0 : Int) ≤ (n : Int) * (m : Int) := by rw [← Int.natCast_mul]; omega
  have hnm2 : n * m < 18446744073709551616 := by omega
  clear hnm
  have E1 : Hid (((Md.mul (Md.pow a n) (Md.pow a m) : Nat) : Int) = ((Md.pow a (n + m) : Nat) : Int)) := hid (by rw [Md.pow_add])
  have E2 : Hid (((Md.pow (Md.pow a n) m : Nat) : Int) = ((Md.pow a (n * m) : Nat) : Int)) := hid (by rw [Md.pow_pow])
  have s1 := small_pow a n
  have s2 := small_pow a m
  go_enter Try.func3, Try.ntmps3
  go_wp2_with fail
  refine (modPow_z a n rfl rfl (by omega) (by omega) rfl).mono ?_; rintro e w1 ⟨rfl, q1⟩
  have Q1 := hid q1
  clear q1
  go_wp2_with fail
  refine (modPow_z a m rfl rfl (by omega) (by omega) rfl).mono ?_; rintro e w2 ⟨rfl, q2⟩
  have Q2 := hid (Q1.out.trans q2)
  clear q2
  go_wp2_with fail
  refine (modMul_z (Md.pow a n) (Md.pow a m) rfl rfl s1 s2 E1.out).mono ?_; rintro e w3 ⟨rfl, q3⟩
  have Q3 := hid (Q2.out.trans q3)
  clear q3
  go_wp2_with fail
  refine (modPow_z a (n + m) rfl (by omega) (by omega) (by omega) rfl).mono ?_; rintro e w4 ⟨rfl, q4⟩
  have Q4 := hid (Q3.out.trans q4)
  clear q4
  go_wp2_with fail
  refine (modPow_z (Md.pow a n) m rfl rfl s1 (by omega) E2.out).mono ?_; rintro e w5 ⟨rfl, q5⟩
  have Q5 := hid (Q4.out.trans q5)
  clear q5
  go_wp2_with fail
  refine (modPow_z a (n * m) rfl (by rw [Int.natCast_mul]) (by omega) hnm2 rfl).mono ?_; rintro e w6 ⟨rfl, q6⟩
  have Q6 := hid (Q5.out.trans q6)
  clear q6
  go_wp2_with fail
  refine (modAwake_any _).mono ?_; rintro e w7 ⟨rfl, q7⟩
  go_wp2
  go_ret
  exact ⟨rfl, (Q6.out.trans q7).bel⟩
end Go.Proofs.Ytbdgblaiglkleaa
