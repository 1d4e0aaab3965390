/- Contracts of the document's Add, Sub, Mul; at any numbers. -/
import Derived.Test.YtbafbnkmmpaomaaModD
namespace Go.Proofs.Ytbafbnkmmpaomaa
open Go.RowKit
set_option linter.unusedVariables false

theorem refAdd_z {x y z : Int} {w : World} (a b : Nat) (hx : x = (a : Int)) (hy : y = (b : Int)) (ha : a < 18446744073709551616) (hb : b < 18446744073709551616) (hz : ((Md.add a b : Nat) : Int) = z) :
    Calls Try.prog 33 #[.int .u64 x, .int .u64 y] w fun e w' => e = .returned (.int .u64 z) ∧ w = w' := by
  subst hx hy hz
  go_enter Try.func33, Try.ntmps33
  go_wp2
  go_ret
  exact ⟨ret_int (by unfold Md.add; rw [Md.P_eq]; omega), rfl⟩
theorem bit_t (q i : Nat) : (((q : Int) / 2 ^ i).tmod 2 == 1) = decide (q / 2 ^ i % 2 = 1) := by
  have e : (q : Int) / 2 ^ i = ((q / 2 ^ i : Nat) : Int) := by
    rw [Int.natCast_ediv, Int.natCast_pow]; rfl
  rw [e, Int.tmod_eq_emod_of_nonneg (Int.natCast_nonneg _)]
  generalize q / 2 ^ i = c
  by_cases h : c % 2 = 1
  · rw [decide_eq_true h, beq_iff_eq]; omega
  · rw [decide_eq_false h, beq_eq_false_iff_ne]; omega
set_option maxRecDepth 100000 in
theorem refMul_z {x y z : Int} {w : World} (a b : Nat) (hx : x = (a : Int)) (hy : y = (b : Int)) (ha : a < 18446744073709551616) (hb : b < 18446744073709551616) (hz : ((Md.mul a b : Nat) : Int) = z) :
    Calls Try.prog 34 #[.int .u64 x, .int .u64 y] w fun e w' => e = .returned (.int .u64 z) ∧ w = w' := by
  subst hx hy hz
  obtain ⟨p, hp⟩ : ∃ p, p = a % 2305843009213693951 := ⟨_, rfl⟩
  obtain ⟨q, hq⟩ : ∃ q, q = b % 2305843009213693951 := ⟨_, rfl⟩
  have ep : (a : Int) % 2305843009213693951 = (p : Int) := by omega
  have eq : (b : Int) % 2305843009213693951 = (q : Int) := by omega
  have lp : p < 2305843009213693952 := by omega
  have lq : q < 2305843009213693952 := by omega
  have HE : Hid (p * (q / 2 ^ 0) % Md.P = Md.mul a b) := hid (by rw [hp, hq]; exact Md.bit_end a b)
  have HS : Hid (p * (q / 2 ^ 61) % Md.P = 0) := hid (Md.bit_start p q lq)
  obtain ⟨r, hr⟩ : ∃ r, r = Md.mul a b := ⟨_, rfl⟩
  rw [← hr] at HE ⊢
  clear hp hq hr
  go_enter Try.func34, Try.ntmps34
  go_wp2_with fail
  rw [ep, eq]
  clear ep eq
  go_loop [5, 6] (fun o5 i5 => ∃ (o i : Nat), o5 = .int .u64 (o : Int) ∧ i5 = .int .i64 ((i : Int) - 1) ∧ i ≤ 61 ∧ o < 18446744073709551616 ∧ Hid (p * (q / 2 ^ i) % Md.P = o)) (fun _ i5 => (intOf i5 + 1).toNat)
  case atStart => exact ⟨0, 61, by go_num, by go_num, by omega, by omega, HS⟩
  case round =>
    obtain ⟨o, i, rfl, rfl, hi, ho, hv⟩ := hrel
    cases i with
    | zero =>
      have HF : Hid (o = r) := hid (by rw [← hv.out, HE.out])
      go_wp2
      go_ret
      exact ⟨by rw [HF.out]; rfl, rfl⟩
    | succ i =>
      have i0 : (0 : Int) ≤ (i : Int) := by omega
      have i1 : (i : Int) ≤ 60 := by omega
      have HB := hid (Md.bit_step p q i)
      have ht := bit_t q i
      by_cases hb1 : q / 2 ^ i % 2 = 1
      · rw [decide_eq_true hb1] at ht
        have HE2 : Hid (p * (q / 2 ^ i) % Md.P = Md.add (Md.add o o) p) := hid (by have := HB.out; rw [if_pos hb1, hv.out] at this; exact this.symm)
        clear hb1 HB
        go_wp2_with fail
        refine (refAdd_z o o rfl rfl ho ho rfl).mono ?_; rintro e w' ⟨rfl, rfl⟩
        go_wp2_with fail
        refine (refAdd_z (Md.add o o) p rfl rfl (small_add _ _) (by omega) rfl).mono ?_; rintro e w' ⟨rfl, rfl⟩
        go_wp2_with fail
        go_round
        case rel => exact ⟨_, i, rfl, by go_num, by omega, small_add _ _, HE2⟩
        case measure => simp [intOf]
      · rw [decide_eq_false hb1] at ht
        have HE2 : Hid (p * (q / 2 ^ i) % Md.P = Md.add o o) := hid (by have := HB.out; rw [if_neg hb1, hv.out] at this; exact this.symm)
        clear hb1 HB
        go_wp2_with fail
        refine (refAdd_z o o rfl rfl ho ho rfl).mono ?_; rintro e w' ⟨rfl, rfl⟩
        go_wp2_with fail
        go_round
        case rel => exact ⟨_, i, rfl, by go_num, by omega, small_add _ _, HE2⟩
        case measure => simp [intOf]
end Go.Proofs.Ytbafbnkmmpaomaa
