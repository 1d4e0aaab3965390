/- Contracts of mod.Of, Add, Sub. -/
import Derived.Test.YtbafbnkmmpaomaaMgA
import Derived.Test.YtbafbnkmmpaomaaBase
namespace Go.Proofs.Ytbafbnkmmpaomaa
open Go.RowKit
set_option linter.unusedVariables false

theorem modOf_any (a : Nat) (ha : a < 18446744073709551616) (w : World) :
    Calls Try.prog 40 #[.int .u64 (a : Int)] w fun e w' => e = .returned (.int .u64 ((a % Md.P : Nat) : Int)) ∧ w = w' := by
  go_enter Try.func40, Try.ntmps40
  go_wp2
  go_ret
  exact ⟨ret_int (by rw [Md.P_eq]; omega), rfl⟩
theorem modAdd_any (a b : Nat) (ha : a < 18446744073709551616) (hb : b < 18446744073709551616) (w : World) :
    Calls Try.prog 25 #[.int .u64 (a : Int), .int .u64 (b : Int)] w fun e w' => e = .returned (.int .u64 ((Md.add a b : Nat) : Int)) ∧ w = w' := by
  obtain ⟨x, hx⟩ : ∃ x, x = a % Md.P := ⟨_, rfl⟩
  obtain ⟨y, hy⟩ : ∃ y, y = b % Md.P := ⟨_, rfl⟩
  have lx : x < 2305843009213693951 := by rw [hx, Md.P_eq]; omega
  have ly : y < 2305843009213693951 := by rw [hy, Md.P_eq]; omega
  have HX := hid hx
  have HY := hid hy
  clear hx hy
  go_enter Try.func25, Try.ntmps25
  go_wp2_with fail
  refine (modOf_any a ha _).mono ?_; rintro e w' ⟨rfl, rfl⟩
  rw [← HX.out]
  go_wp2_with fail
  refine (modOf_any b hb _).mono ?_; rintro e w' ⟨rfl, rfl⟩
  rw [← HY.out]
  go_wp2
  go_ret
  refine ⟨ret_int ?_, rfl⟩
  unfold Md.add
  rw [← HX.out, ← HY.out, Md.P_eq]; omega
theorem modSub_any (a b : Nat) (ha : a < 18446744073709551616) (hb : b < 18446744073709551616) (w : World) :
    Calls Try.prog 23 #[.int .u64 (a : Int), .int .u64 (b : Int)] w fun e w' => e = .returned (.int .u64 ((Md.sub a b : Nat) : Int)) ∧ w = w' := by
  obtain ⟨x, hx⟩ : ∃ x, x = a % Md.P := ⟨_, rfl⟩
  obtain ⟨y, hy⟩ : ∃ y, y = b % Md.P := ⟨_, rfl⟩
  have lx : x < 2305843009213693951 := by rw [hx, Md.P_eq]; omega
  have ly : y < 2305843009213693951 := by rw [hy, Md.P_eq]; omega
  have HX := hid hx
  have HY := hid hy
  clear hx hy
  go_enter Try.func23, Try.ntmps23
  go_wp2_with fail
  refine (modOf_any a ha _).mono ?_; rintro e w' ⟨rfl, rfl⟩
  rw [← HX.out]
  go_wp2_with fail
  refine (modOf_any b hb _).mono ?_; rintro e w' ⟨rfl, rfl⟩
  rw [← HY.out]
  go_wp2
  go_ret
  refine ⟨ret_int ?_, rfl⟩
  unfold Md.sub
  rw [← HX.out, ← HY.out, Md.P_eq]; omega
end Go.Proofs.Ytbafbnkmmpaomaa
