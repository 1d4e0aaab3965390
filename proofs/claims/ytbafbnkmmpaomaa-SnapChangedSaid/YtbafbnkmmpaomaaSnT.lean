/- The walk of SnapSums. -/
import Derived.Test.YtbafbnkmmpaomaaSnS
namespace Go.Proofs.Ytbafbnkmmpaomaa
open Go.RowKit
set_option linter.unusedVariables false
set_option linter.unusedSimpArgs false
attribute [local go_sem ↓] Go.wp_at_zero Go.wp_at_succ
theorem sums_law (a b : Sn.By) : Sn.sum (a ++ b) = Md.add (Md.mul (Md.sub (Sn.sum a) 1) (Md.pow 257 b.length)) (Sn.sum b) := by
  have e : Md.sub (Sn.sum a) 1 = (Sn.sum a + (Sn.P - 1)) % Sn.P := by
    have h := Sn.sum_lt a
    unfold Md.sub Md.P
    unfold Sn.P at h ⊢
    omega
  rw [Sn.sum_app, Md.add_eq, Md.mul_eq, e]
  rfl
set_option maxRecDepth 100000 in
set_option maxHeartbeats 8000000 in
theorem snapSums_walk (a b : ByteArray) (w : World) : Calls Try.prog 10 #[.string a, .string b] w (IsTrue w) := by
  have HB := hid (Below.refl w.heap.size w)
  by_cases k1 : a.size ≤ 300
  case neg =>
    have d1 : (300 : Int) < (a.size : Int) := by omega
    go_enter Try.func10, Try.ntmps10
    go_wp2_with fail
    refine (awake_any _).mono ?_; rintro e w1 ⟨rfl, b1⟩
    go_wp2
    go_ret
    exact ⟨rfl, Bl.call HB.out b1⟩
  by_cases k2 : b.size ≤ 300
  case neg =>
    have d1 : ¬ (300 : Int) < (a.size : Int) := by omega
    have d2 : (300 : Int) < (b.size : Int) := by omega
    go_enter Try.func10, Try.ntmps10
    go_wp2_with fail
    refine (awake_any _).mono ?_; rintro e w1 ⟨rfl, b1⟩
    go_wp2
    go_ret
    exact ⟨rfl, Bl.call HB.out b1⟩
  have d1 : ¬ (300 : Int) < (a.size : Int) := by omega
  have d2 : ¬ (300 : Int) < (b.size : Int) := by omega
  obtain ⟨la, rfl, hla⟩ := str_of a
  obtain ⟨lb, rfl, hlb⟩ := str_of b
  obtain ⟨x, hx⟩ : ∃ x, Sn.sum la = x := ⟨_, rfl⟩
  obtain ⟨y, hy⟩ : ∃ y, Sn.sum lb = y := ⟨_, rfl⟩
  obtain ⟨z, hz⟩ : ∃ z, Sn.sum (la ++ lb) = z := ⟨_, rfl⟩
  obtain ⟨s1, hs1⟩ : ∃ s1, Md.sub x 1 = s1 := ⟨_, rfl⟩
  obtain ⟨s2, hs2⟩ : ∃ s2, Md.pow 257 lb.length = s2 := ⟨_, rfl⟩
  obtain ⟨s3, hs3⟩ : ∃ s3, Md.mul s1 s2 = s3 := ⟨_, rfl⟩
  have hl := sums_law la lb
  rw [hx, hy, hz, hs1, hs2, hs3] at hl
  have xb : x < 18446744073709551616 := sn_small (by rw [← hx]; exact Sn.sum_lt _)
  have yb : y < 18446744073709551616 := sn_small (by rw [← hy]; exact Sn.sum_lt _)
  have b1 : s1 < 18446744073709551616 := sn_small (by rw [← hs1]; exact Md.sub_lt _ _)
  have b2 : s2 < 18446744073709551616 := sn_small (by rw [← hs2]; exact Nat.mod_lt _ (by decide))
  have b3 : s3 < 18446744073709551616 := sn_small (by rw [← hs3]; exact Md.mul_lt _ _)
  obtain ⟨a, ha⟩ : ∃ a, a = str la := ⟨_, rfl⟩
  obtain ⟨b, hb⟩ : ∃ b, b = str lb := ⟨_, rfl⟩
  have hn : lb.length = b.size := by rw [hlb, hb]
  have SA : Hid (∀ w : World, Calls Try.prog 17 #[.string a] w fun e w' => e = .returned (.int .u64 (x : Int)) ∧ Qt w w') := hid (fun w => by rw [← hx, ha]; exact bsum_any (by omega))
  have SB : Hid (∀ w : World, Calls Try.prog 17 #[.string b] w fun e w' => e = .returned (.int .u64 (y : Int)) ∧ Qt w w') := hid (fun w => by rw [← hy, hb]; exact bsum_any (by omega))
  have SC : Hid (∀ w : World, Calls Try.prog 17 #[.string (a ++ b)] w fun e w' => e = .returned (.int .u64 (z : Int)) ∧ Qt w w') := hid (fun w => by rw [← hz, ha, hb, str_app]; exact bsum_any (by rw [List.length_append]; omega))
  have C1 : Hid (∀ w : World, Calls Try.prog 23 #[.int .u64 (x : Int), .int .u64 1] w fun e w' => e = .returned (.int .u64 (s1 : Int)) ∧ w = w') := hid (fun w => modSub_z x 1 rfl rfl xb (by decide) (by rw [hs1]))
  have C2 : Hid (∀ w : World, Calls Try.prog 24 #[.int .u64 257, .int .u64 (b.size : Int)] w fun e w' => e = .returned (.int .u64 (s2 : Int)) ∧ Qt w w') := hid (fun w => modPow_z 257 b.size rfl rfl (by decide) (by omega) (by rw [← hn, hs2]))
  have C3 : Hid (∀ w : World, Calls Try.prog 22 #[.int .u64 (s1 : Int), .int .u64 (s2 : Int)] w fun e w' => e = .returned (.int .u64 (s3 : Int)) ∧ Qt w w') := hid (fun w => modMul_z s1 s2 rfl rfl b1 b2 (by rw [hs3]))
  have C4 : Hid (∀ w : World, Calls Try.prog 25 #[.int .u64 (s3 : Int), .int .u64 (y : Int)] w fun e w' => e = .returned (.int .u64 (z : Int)) ∧ w = w') := hid (fun w => modAdd_z s3 y rfl rfl b3 yb (by rw [← hl]))
  have d3 : (b.size : Int) ≤ 300 := by omega
  rw [← ha, ← hb]
  rw [← ha] at d1 k1
  rw [← hb] at d2 k2
  clear hx hy hz hs1 hs2 hs3 hl ha hb hla hlb hn xb yb b1 b2 b3
  go_enter Try.func10, Try.ntmps10
  go_wp2_with fail
  refine (SA.out _).mono ?_; rintro e w1 ⟨rfl, q1⟩
  replace HB := hid (Bl.qt HB.out q1)
  go_wp2_with fail
  refine (C1.out _).mono ?_; rintro e _ ⟨rfl, rfl⟩
  go_wp2_with fail
  refine (C2.out _).mono ?_; rintro e w2 ⟨rfl, q2⟩
  replace HB := hid (Bl.qt HB.out q2)
  go_wp2_with fail
  refine (C3.out _).mono ?_; rintro e w3 ⟨rfl, q3⟩
  replace HB := hid (Bl.qt HB.out q3)
  clear q1 q2 q3
  go_wp2_with fail
  refine (SC.out _).mono ?_; rintro e w4 ⟨rfl, q4⟩
  replace HB := hid (Bl.qt HB.out q4)
  go_wp2_with fail
  refine (SB.out _).mono ?_; rintro e w5 ⟨rfl, q5⟩
  replace HB := hid (Bl.qt HB.out q5)
  go_wp2_with fail
  refine (C4.out _).mono ?_; rintro e _ ⟨rfl, rfl⟩
  clear q4 q5
  go_wp2_with fail
  refine (awake_any _).mono ?_; rintro e w6 ⟨rfl, b6⟩
  replace HB := hid (Bl.call HB.out b6)
  clear b6
  go_wp2
  go_ret
  exact ⟨rfl, HB.out⟩
end Go.Proofs.Ytbafbnkmmpaomaa
