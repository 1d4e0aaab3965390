/- The contracts at whatever numbers; contract of awake. -/
import Derived.Test.YtbafbnkmmpaomaaModC
namespace Go.Proofs.Ytbafbnkmmpaomaa
open Go.RowKit
set_option linter.unusedVariables false

section
variable {x y z : Int} {w : World}
theorem modOf_z (a : Nat) (hx : x = (a : Int)) (ha : a < 18446744073709551616) (hz : ((a % Md.P : Nat) : Int) = z) :
    Calls Try.prog 40 #[.int .u64 x] w fun e w' => e = .returned (.int .u64 z) ∧ w = w' := by subst hx hz; exact modOf_any a ha w
theorem modAdd_z (a b : Nat) (hx : x = (a : Int)) (hy : y = (b : Int)) (ha : a < 18446744073709551616) (hb : b < 18446744073709551616) (hz : ((Md.add a b : Nat) : Int) = z) :
    Calls Try.prog 25 #[.int .u64 x, .int .u64 y] w fun e w' => e = .returned (.int .u64 z) ∧ w = w' := by subst hx hy hz; exact modAdd_any a b ha hb w
theorem modSub_z (a b : Nat) (hx : x = (a : Int)) (hy : y = (b : Int)) (ha : a < 18446744073709551616) (hb : b < 18446744073709551616) (hz : ((Md.sub a b : Nat) : Int) = z) :
    Calls Try.prog 23 #[.int .u64 x, .int .u64 y] w fun e w' => e = .returned (.int .u64 z) ∧ w = w' := by subst hx hy hz; exact modSub_any a b ha hb w
theorem modMul_z (a b : Nat) (hx : x = (a : Int)) (hy : y = (b : Int)) (ha : a < 18446744073709551616) (hb : b < 18446744073709551616) (hz : ((Md.mul a b : Nat) : Int) = z) :
    Calls Try.prog 22 #[.int .u64 x, .int .u64 y] w fun e w' => e = .returned (.int .u64 z) ∧ Qt w w' := by subst hx hy hz; exact modMul_any a b ha hb w
theorem modPow_z (a b : Nat) (hx : x = (a : Int)) (hy : y = (b : Int)) (ha : a < 18446744073709551616) (hb : b < 18446744073709551616) (hz : ((Md.pow a b : Nat) : Int) = z) :
    Calls Try.prog 24 #[.int .u64 x, .int .u64 y] w fun e w' => e = .returned (.int .u64 z) ∧ Qt w w' := by subst hx hy hz; exact modPow_any a b ha hb w
end
theorem k1 : ((Md.mul 1152921504606846976 2 : Nat) : Int) = 1 := by decide +kernel
theorem k2 : ((Md.sub 0 1 : Nat) : Int) = 2305843009213693950 := by decide +kernel
theorem k3 : ((18446744073709551615 % Md.P : Nat) : Int) = 7 := by decide +kernel
theorem k4 : ((Md.inv 2 : Nat) : Int) = 1152921504606846976 := by rw [Md.inv_two]; rfl
theorem k5 : ((Md.inv 0 : Nat) : Int) = 0 := by rw [Md.inv_zero 0 (Nat.zero_mod _)]; rfl
theorem k6 : ((Md.pow 5 0 : Nat) : Int) = 1 := by decide +kernel
end Go.Proofs.Ytbafbnkmmpaomaa
