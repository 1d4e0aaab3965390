/- The walk of VertsFull. -/
import Derived.Test.YtcbedngimgkcoaaVerP
import Derived.Test.YtcbedngimgkcoaaVertsFull
namespace Go.Proofs.Ytcbedngimgkcoaa
open Go.RowKit
set_option linter.unusedVariables false
set_option linter.unusedSimpArgs false
attribute [local go_sem ↓] Go.wp_at_zero Go.wp_at_succ
theorem ks_cnt {l : List (Bool × Int)} (ho : Vt.Ok l) : (ksP l).length = Vt.cnt l := by
  obtain ⟨d, h1, -⟩ := kd_ok ho
  unfold ksP
  rw [h1]
  unfold kd at h1
  rw [if_pos ⟨ho.1, ho.2.1⟩] at h1
  simpa using (Vt.keyed_cnt l d h1).1
set_option maxRecDepth 100000 in
set_option maxHeartbeats 4000000 in
theorem vertsFull_walk (n first : Int) (w : World) (hn : 0 ≤ n ∧ n ≤ 255) (hf : 0 ≤ first ∧ first ≤ 18446744073709551615) :
    Calls Try.prog 8 #[.int .u8 n, .int .u64 first] w (IsTrue w) := by
  have HB := hid (Below.refl w.heap.size w)
  obtain ⟨n0, hn0⟩ := Int.eq_ofNat_of_zero_le hn.1
  obtain ⟨s, hs⟩ : ∃ s : Nat, s = 1 + n0 % 60 := ⟨_, rfl⟩
  have hs2 : 1 + n % 60 = (s : Int) := by omega
  have h1 : 1 ≤ s ∧ s ≤ 60 := by omega
  have h2 : 1 ≤ s ∧ s ≤ 1024 := by omega
  have H1 := hid h1
  have H2 := hid h2
  have HF := hid hf
  have HS2 := hid hs2
  obtain ⟨hn1, hn2⟩ := hn
  clear h2 hf hn0 hs
  have y0 : IntKind.u64.wrap (first - 1) = Vt.kf first (-1) := by rw [IntKind.wrap_u64]; unfold Vt.kf; omega
  obtain ⟨y, hy⟩ : ∃ y, y = Vt.kf first (-1) := ⟨_, rfl⟩
  rw [← hy] at y0
  have HY := hid hy
  clear hy
  clear h1
  go_enter Try.func8, Try.ntmps8
  go_wp2_with fail
  refine (vnew_ok H2.out _).mono ?_; rintro e w1 ⟨v1, rfl, s1_, b_⟩
  replace HB := hid (Bl.call HB.out b_)
  have S1 := hid s1_
  clear s1_
  clear b_
  go_wp2_with fail
  go_loopw [6, 25] (fun lv iv wr => ∃ (j : Nat), iv = .int .i64 (j : Int) ∧ j ≤ s ∧ Hid (Sl wr wr.heap.size 2 lv s (sls (Vt.fl s first j))) ∧ Hid (Below w.heap.size w wr)) (fun _ iv _ => s - (intOf iv).toNat)
  case atStart => exact ⟨0, rfl, Nat.zero_le _, hid (by rw [Vt.fl_zero]; exact S1.out), HB⟩
  case round =>
    clear HB S1
    obtain ⟨j, rfl, hj, S, HB⟩ := hrel
    by_cases hlt : j < s
    · have j0 : (j : Int) < (s : Int) := by omega
      have x1 : ((j : Int) != (j : Int)) = false := by simp
      have y1 : IntKind.u64.wrap (first + (j : Int)) = Vt.kf first (j : Int) := by rw [IntKind.wrap_u64]; unfold Vt.kf; omega
      have HA := hid (Vt.fl_add H1.out.1 H1.out.2 first hlt)
      have HA2 : Hid (Vt.add (Vt.fl s first j) (Vt.kf first (j : Int)) = (Vt.fl s first (j + 1), (j : Int).toNat, 0)) := hid (by simpa using HA.out)
      obtain ⟨z, hz⟩ : ∃ z, z = Vt.kf first (j : Int) := ⟨_, rfl⟩
      rw [← hz] at y1 HA2
      clear hz HA
      go_wp2_with fail
      refine (vadd_is (k := z) S.out (Vt.fl s first (j + 1)) (j : Int) 0 HA2.out (by omega) (by decide)).mono ?_; rintro e w5 ⟨v5, rfl, s5, b5⟩
      have S5 := hid s5
      have HB5 := hid (Bl.call HB.out b5)
      clear s5 b5
      go_wp2_with fail
      go_roundw
      case rel => exact ⟨j + 1, by go_num, by omega, S5, HB5⟩
      case measure => simp [intOf]; omega
    · obtain rfl : j = s := by omega
      have j0 : ¬ (j : Int) < (j : Int) := by omega
      have HA : Hid (Vt.add (Vt.fl j first j) y = (Vt.fl j first j, 0, 10)) := hid (by rw [HY.out]; exact Vt.fl_add_full H1.out.1 H1.out.2 first)
      have HC : Hid ((ksP (Vt.fl j first j)).length = j) := hid (by rw [ks_cnt (Vt.fl_ok H1.out.1 H1.out.2 first j), Vt.fl_cnt])
      have x1 : ((j : Int) == (j : Int)) = true := by simp
      skip
      go_wp2_with fail
      refine (vadd_is (k := y) S.out (Vt.fl j first j) 0 10 HA.out (by decide) (by decide)).mono ?_; rintro e w9 ⟨v6, rfl, s6_, b_⟩
      replace S := hid (S.out.call b_)
      replace HB := hid (Bl.call HB.out b_)
      have S6 := hid s6_
      clear s6_
      clear b_
      go_wp2_with fail
      refine (vkeys_is S.out (ksP (Vt.fl j first j)) j rfl HC.out).mono ?_; rintro e w10 ⟨v7, rfl, s7_, b_⟩
      replace S := hid (S.out.call b_)
      replace S6 := hid (S6.out.call b_)
      replace HB := hid (Bl.call HB.out b_)
      have S7 := hid s7_
      clear s7_
      clear b_
      obtain ⟨A7, c7, rfl, -⟩ := S7.out
      go_wp2_with fail
      refine (awake_any _).mono ?_; rintro e w11 ⟨rfl, b_⟩
      replace S := hid (S.out.call b_)
      replace S6 := hid (S6.out.call b_)
      replace S7 := hid (S7.out.call b_)
      replace HB := hid (Bl.call HB.out b_)
      clear b_
      go_wp2
      go_ret
      exact ⟨rfl, HB.out⟩
end Go.Proofs.Ytcbedngimgkcoaa
