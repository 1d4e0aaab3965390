/- Walks of the laws ModLaws, ModBack, ModTwice. -/
import Derived.Test.YtbdgblaiglkleaaModE
namespace Go.Proofs.Ytbdgblaiglkleaa
open Go.RowKit
set_option linter.unusedVariables false

theorem zc {a b : Nat} (h : a = b) : Hid (((a : Nat) : Int) = ((b : Nat) : Int)) := hid (by rw [h])
theorem modLaws_walk (a b c : Int) (w : World) (ha : 0 ≤ a ∧ a ≤ 18446744073709551615) (hb : 0 ≤ b ∧ b ≤ 18446744073709551615) (hc : 0 ≤ c ∧ c ≤ 18446744073709551615) :
    Calls Try.prog 5 #[.int .u64 a, .int .u64 b, .int .u64 c] w (IsTrue w) := by
  obtain ⟨a, rfl⟩ := Int.eq_ofNat_of_zero_le ha.1
  obtain ⟨b, rfl⟩ := Int.eq_ofNat_of_zero_le hb.1
  obtain ⟨c, rfl⟩ := Int.eq_ofNat_of_zero_le hc.1
  obtain ⟨-, ha⟩ := ha
  obtain ⟨-, hb⟩ := hb
  obtain ⟨-, hc⟩ := hc
  have la : a < 18446744073709551616 := by omega
  have lb : b < 18446744073709551616 := by omega
  have lc : c < 18446744073709551616 := by omega
  have E1 := zc (Md.add_comm b a)
  have E2 := zc (Md.add_assoc a b c).symm
  have E3 := zc (Md.mul_comm b a)
  have E4 := zc (Md.mul_assoc a b c).symm
  have E5 := zc (Md.add_mul a b c).symm
  go_enter Try.func5, Try.ntmps5
  go_wp2_with fail
  refine (modAdd_z a b rfl rfl la lb rfl).mono ?_; rintro e w' ⟨rfl, rfl⟩
  go_wp2_with fail
  refine (modAdd_z b a rfl rfl lb la E1.out).mono ?_; rintro e w' ⟨rfl, rfl⟩
  go_wp2_with fail
  refine (modAdd_z a b rfl rfl la lb rfl).mono ?_; rintro e w' ⟨rfl, rfl⟩
  go_wp2_with fail
  refine (modAdd_z (Md.add a b) c rfl rfl (small_add _ _) lc rfl).mono ?_; rintro e w' ⟨rfl, rfl⟩
  go_wp2_with fail
  refine (modAdd_z b c rfl rfl lb lc rfl).mono ?_; rintro e w' ⟨rfl, rfl⟩
  go_wp2_with fail
  refine (modAdd_z a (Md.add b c) rfl rfl la (small_add _ _) E2.out).mono ?_; rintro e w' ⟨rfl, rfl⟩
  go_wp2_with fail
  refine (modMul_z a b rfl rfl la lb rfl).mono ?_; rintro e w1 ⟨rfl, q1⟩
  have Q1 := hid q1
  clear q1
  go_wp2_with fail
  refine (modMul_z b a rfl rfl lb la E3.out).mono ?_; rintro e w2 ⟨rfl, q2⟩
  have Q2 := hid (Q1.out.trans q2)
  clear q2
  go_wp2_with fail
  refine (modMul_z a b rfl rfl la lb rfl).mono ?_; rintro e w3 ⟨rfl, q3⟩
  have Q3 := hid (Q2.out.trans q3)
  clear q3
  go_wp2_with fail
  refine (modMul_z (Md.mul a b) c rfl rfl (small_mul _ _) lc rfl).mono ?_; rintro e w4 ⟨rfl, q4⟩
  have Q4 := hid (Q3.out.trans q4)
  clear q4
  go_wp2_with fail
  refine (modMul_z b c rfl rfl lb lc rfl).mono ?_; rintro e w5 ⟨rfl, q5⟩
  have Q5 := hid (Q4.out.trans q5)
  clear q5
  go_wp2_with fail
  refine (modMul_z a (Md.mul b c) rfl rfl la (small_mul _ _) E4.out).mono ?_; rintro e w6 ⟨rfl, q6⟩
  have Q6 := hid (Q5.out.trans q6)
  clear q6
  go_wp2_with fail
  refine (modAdd_z a b rfl rfl la lb rfl).mono ?_; rintro e w' ⟨rfl, rfl⟩
  go_wp2_with fail
  refine (modMul_z (Md.add a b) c rfl rfl (small_add _ _) lc rfl).mono ?_; rintro e w7 ⟨rfl, q7⟩
  have Q7 := hid (Q6.out.trans q7)
  clear q7
  go_wp2_with fail
  refine (modMul_z a c rfl rfl la lc rfl).mono ?_; rintro e w8 ⟨rfl, q8⟩
  have Q8 := hid (Q7.out.trans q8)
  clear q8
  go_wp2_with fail
  refine (modMul_z b c rfl rfl lb lc rfl).mono ?_; rintro e w9 ⟨rfl, q9⟩
  have Q9 := hid (Q8.out.trans q9)
  clear q9
  go_wp2_with fail
  refine (modAdd_z (Md.mul a c) (Md.mul b c) rfl rfl (small_mul _ _) (small_mul _ _) E5.out).mono ?_; rintro e w' ⟨rfl, rfl⟩
  go_wp2_with fail
  refine (modAwake_any _).mono ?_; rintro e wz ⟨rfl, qz⟩
  go_wp2
  go_ret
  exact ⟨rfl, (Q9.out.trans qz).bel⟩
theorem modTwice_walk (a : Int) (w : World) (ha : 0 ≤ a ∧ a ≤ 18446744073709551615) :
    Calls Try.prog 8 #[.int .u64 a] w (IsTrue w) := by
  obtain ⟨a, rfl⟩ := Int.eq_ofNat_of_zero_le ha.1
  obtain ⟨-, ha⟩ := ha
  have la : a < 18446744073709551616 := by omega
  have E1 := zc (Md.twice a).symm
  have E2 := zc (Md.half_twice a)
  go_enter Try.func8, Try.ntmps8
  go_wp2_with fail
  refine (modInv_z 2 rfl (by decide) rfl).mono ?_; rintro e w1 ⟨rfl, q1⟩
  have Q1 := hid q1
  clear q1
  go_wp2_with fail
  refine (modMul_z a (Md.inv 2) rfl rfl la (small_inv _) rfl).mono ?_; rintro e w2 ⟨rfl, q2⟩
  have Q2 := hid (Q1.out.trans q2)
  clear q2
  go_wp2_with fail
  refine (modAdd_z a a rfl rfl la la rfl).mono ?_; rintro e w' ⟨rfl, rfl⟩
  go_wp2_with fail
  refine (modMul_z 2 a rfl rfl (by decide) la E1.out).mono ?_; rintro e w3 ⟨rfl, q3⟩
  have Q3 := hid (Q2.out.trans q3)
  clear q3
  go_wp2_with fail
  refine (modAdd_z (Md.mul a (Md.inv 2)) (Md.mul a (Md.inv 2)) rfl rfl (small_mul _ _) (small_mul _ _) E2.out).mono ?_; rintro e w' ⟨rfl, rfl⟩
  go_wp2_with fail
  refine (modOf_z a rfl la rfl).mono ?_; rintro e w' ⟨rfl, rfl⟩
  go_wp2_with fail
  refine (modAwake_any _).mono ?_; rintro e wz ⟨rfl, qz⟩
  go_wp2
  go_ret
  exact ⟨rfl, (Q3.out.trans qz).bel⟩
theorem modBack_walk (a b : Int) (w : World) (ha : 0 ≤ a ∧ a ≤ 18446744073709551615) (hb : 0 ≤ b ∧ b ≤ 18446744073709551615) :
    Calls Try.prog 6 #[.int .u64 a, .int .u64 b] w (IsTrue w) := by
  obtain ⟨a, rfl⟩ := Int.eq_ofNat_of_zero_le ha.1
  obtain ⟨b, rfl⟩ := Int.eq_ofNat_of_zero_le hb.1
  obtain ⟨-, ha⟩ := ha
  obtain ⟨-, hb⟩ := hb
  have la : a < 18446744073709551616 := by omega
  have lb : b < 18446744073709551616 := by omega
  have E1 := zc (Md.add_sub a b)
  have E2 := zc (Md.sub_add a b)
  by_cases h0 : b % Md.P = 0
  · have E3 : Hid (((b % Md.P : Nat) : Int) = 0) := hid (by rw [h0]; rfl)
    have E4 : Hid (((Md.mul a b : Nat) : Int) = 0) := hid (by rw [Md.mul_zero a b h0]; rfl)
    have E5 : Hid (((Md.inv b : Nat) : Int) = 0) := hid (by rw [Md.inv_zero b h0]; rfl)
    clear h0
    go_enter Try.func6, Try.ntmps6
    go_wp2_with fail
    refine (modAdd_z a b rfl rfl la lb rfl).mono ?_; rintro e w' ⟨rfl, rfl⟩
    go_wp2_with fail
    refine (modSub_z (Md.add a b) b rfl rfl (small_add _ _) lb E1.out).mono ?_; rintro e w' ⟨rfl, rfl⟩
    go_wp2_with fail
    refine (modOf_z a rfl la rfl).mono ?_; rintro e w' ⟨rfl, rfl⟩
    go_wp2_with fail
    refine (modSub_z a b rfl rfl la lb rfl).mono ?_; rintro e w' ⟨rfl, rfl⟩
    go_wp2_with fail
    refine (modAdd_z (Md.sub a b) b rfl rfl (small_sub _ _) lb E2.out).mono ?_; rintro e w' ⟨rfl, rfl⟩
    go_wp2_with fail
    refine (modOf_z a rfl la rfl).mono ?_; rintro e w' ⟨rfl, rfl⟩
    go_wp2_with fail
    refine (modOf_z b rfl lb E3.out).mono ?_; rintro e w' ⟨rfl, rfl⟩
    go_wp2_with fail
    refine (modMul_z a b rfl rfl la lb E4.out).mono ?_; rintro e w1 ⟨rfl, q1⟩
    have Q1 := hid q1
    clear q1
    go_wp2_with fail
    refine (modInv_z b rfl lb E5.out).mono ?_; rintro e w2 ⟨rfl, q2⟩
    have Q2 := hid (Q1.out.trans q2)
    clear q2
    go_wp2_with fail
    refine (modAwake_any _).mono ?_; rintro e wz ⟨rfl, qz⟩
    go_wp2
    go_ret
    exact ⟨rfl, (Q2.out.trans qz).bel⟩
  · have e0 : (((b % Md.P : Nat) : Int) == 0) = false := by rw [beq_eq_false_iff_ne]; omega
    have E3 := zc (Md.mul_back a b h0)
    have E4 := zc (Md.inv_inv b h0)
    have so := small_of b
    clear h0
    generalize hbo : b % Md.P = bo at *
    have HBO := hid hbo
    clear hbo
    go_enter Try.func6, Try.ntmps6
    go_wp2_with fail
    refine (modAdd_z a b rfl rfl la lb rfl).mono ?_; rintro e w' ⟨rfl, rfl⟩
    go_wp2_with fail
    refine (modSub_z (Md.add a b) b rfl rfl (small_add _ _) lb E1.out).mono ?_; rintro e w' ⟨rfl, rfl⟩
    go_wp2_with fail
    refine (modOf_z a rfl la rfl).mono ?_; rintro e w' ⟨rfl, rfl⟩
    go_wp2_with fail
    refine (modSub_z a b rfl rfl la lb rfl).mono ?_; rintro e w' ⟨rfl, rfl⟩
    go_wp2_with fail
    refine (modAdd_z (Md.sub a b) b rfl rfl (small_sub _ _) lb E2.out).mono ?_; rintro e w' ⟨rfl, rfl⟩
    go_wp2_with fail
    refine (modOf_z a rfl la rfl).mono ?_; rintro e w' ⟨rfl, rfl⟩
    go_wp2_with fail
    refine (modOf_z b rfl lb (zc HBO.out).out).mono ?_; rintro e w' ⟨rfl, rfl⟩
    go_wp2_with fail
    refine (modMul_z a b rfl rfl la lb rfl).mono ?_; rintro e w1 ⟨rfl, q1⟩
    have Q1 := hid q1
    clear q1
    go_wp2_with fail
    refine (modInv_z b rfl lb rfl).mono ?_; rintro e w2 ⟨rfl, q2⟩
    have Q2 := hid (Q1.out.trans q2)
    clear q2
    go_wp2_with fail
    refine (modMul_z (Md.mul a b) (Md.inv b) rfl rfl (small_mul _ _) (small_inv _) E3.out).mono ?_; rintro e w3 ⟨rfl, q3⟩
    have Q3 := hid (Q2.out.trans q3)
    clear q3
    go_wp2_with fail
    refine (modOf_z a rfl la rfl).mono ?_; rintro e w' ⟨rfl, rfl⟩
    go_wp2_with fail
    refine (modInv_z b rfl lb rfl).mono ?_; rintro e w4 ⟨rfl, q4⟩
    have Q4 := hid (Q3.out.trans q4)
    clear q4
    go_wp2_with fail
    refine (modInv_z (Md.inv b) rfl (small_inv _) E4.out).mono ?_; rintro e w5 ⟨rfl, q5⟩
    have Q5 := hid (Q4.out.trans q5)
    clear q5
    go_wp2_with fail
    refine (modOf_z b rfl lb (zc HBO.out).out).mono ?_; rintro e w' ⟨rfl, rfl⟩
    go_wp2_with fail
    refine (modAwake_any _).mono ?_; rintro e wz ⟨rfl, qz⟩
    go_wp2
    go_ret
    exact ⟨rfl, (Q5.out.trans qz).bel⟩
end Go.Proofs.Ytbdgblaiglkleaa
