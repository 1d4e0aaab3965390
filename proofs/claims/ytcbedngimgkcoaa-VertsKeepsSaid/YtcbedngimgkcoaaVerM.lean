/- The walk of VertsNew. -/
import Derived.Test.YtcbedngimgkcoaaVerL
namespace Go.Proofs.Ytcbedngimgkcoaa
open Go.RowKit
set_option linter.unusedVariables false
set_option linter.unusedSimpArgs false
/-- A new directory. -/
theorem keyed_new (n : Nat) : Vt.keyed (List.replicate n (false, 0)) = some [] := by
  induction n with
  | zero => rfl
  | succ n ih => rw [List.replicate_succ', Vt.keyed_snoc, ih]; rfl
theorem kd_new {n : Nat} (h : 1 ≤ n ∧ n ≤ 1024) : kd (List.replicate n (false, 0)) = some [] := by
  unfold kd; rw [if_pos (by simpa using h), keyed_new]
theorem fd_new {n : Nat} (h : 1 ≤ n ∧ n ≤ 1024) (k : Int) : fdP (List.replicate n (false, 0)) k = none := by
  unfold fdP; rw [kd_new h]; rfl
set_option maxRecDepth 100000 in
theorem vertsNew_walk (n k : Int) (w : World) : Calls Try.prog 5 #[.int .i64 n, .int .u64 k] w (IsTrue w) := by
  have HB := hid (Below.refl w.heap.size w)
  by_cases hz : 1 ≤ n ∧ n ≤ 1024
  case neg =>
    have HZ := hid hz
    by_cases h1 : n < 1
    case pos =>
      clear hz
      go_enter Try.func5, Try.ntmps5
      go_wp2_with fail
      refine (vnew_no HZ.out _).mono ?_; rintro e _ ⟨rfl, rfl⟩
      go_wp2_with fail
      refine (awake_any _).mono ?_; rintro e w1 ⟨rfl, b_⟩
      replace HB := hid (Bl.call HB.out b_)
      clear b_
      go_wp2
      go_ret
      exact ⟨rfl, HB.out⟩
    case neg =>
      have h2 : (1024 : Int) < n := by omega
      clear hz
      go_enter Try.func5, Try.ntmps5
      go_wp2_with fail
      refine (vnew_no HZ.out _).mono ?_; rintro e _ ⟨rfl, rfl⟩
      go_wp2_with fail
      refine (awake_any _).mono ?_; rintro e w1 ⟨rfl, b_⟩
      replace HB := hid (Bl.call HB.out b_)
      clear b_
      go_wp2
      go_ret
      exact ⟨rfl, HB.out⟩
  case pos =>
    obtain ⟨m, rfl⟩ := Int.eq_ofNat_of_zero_le (show 0 ≤ n by omega)
    have hm : 1 ≤ m ∧ m ≤ 1024 := by omega
    have HM := hid hm
    have h1 : ¬ (m : Int) < 1 := by omega
    have h2 : ¬ (1024 : Int) < (m : Int) := by omega
    clear hz hm
    go_enter Try.func5, Try.ntmps5
    go_wp2_with fail
    refine (vnew_ok HM.out _).mono ?_; rintro e w1 ⟨v1, rfl, s1_, b_⟩
    replace HB := hid (Bl.call HB.out b_)
    have S1 := hid s1_
    clear s1_
    clear b_
    obtain ⟨A, c, rfl, -⟩ := S1.out
    go_wp2_with fail
    refine (vfind_is (k := k) S1.out 0 false (by rw [fd_new HM.out]; rfl) (by rw [fd_new HM.out]; rfl)).mono ?_; rintro e w2 ⟨rfl, b_⟩
    replace S1 := hid (S1.out.call b_)
    replace HB := hid (Bl.call HB.out b_)
    clear b_
    go_wp2_with fail
    refine (vkeys_is S1.out [] 0 (by unfold ksP; rw [kd_new HM.out]; rfl) rfl).mono ?_; rintro e w3 ⟨v2, rfl, s2_, b_⟩
    replace S1 := hid (S1.out.call b_)
    replace HB := hid (Bl.call HB.out b_)
    have S2 := hid s2_
    clear s2_
    clear b_
    obtain ⟨A2, c2, rfl, -⟩ := S2.out
    go_wp2_with fail
    refine (vright_is S1.out true (by rw [kd_new HM.out]; rfl)).mono ?_; rintro e w4 ⟨rfl, b_⟩
    replace S1 := hid (S1.out.call b_)
    replace S2 := hid (S2.out.call b_)
    replace HB := hid (Bl.call HB.out b_)
    clear b_
    go_wp2_with fail
    refine (awake_any _).mono ?_; rintro e w5 ⟨rfl, b_⟩
    replace S1 := hid (S1.out.call b_)
    replace S2 := hid (S2.out.call b_)
    replace HB := hid (Bl.call HB.out b_)
    clear b_
    go_wp2
    go_ret
    exact ⟨rfl, HB.out⟩
end Go.Proofs.Ytcbedngimgkcoaa
