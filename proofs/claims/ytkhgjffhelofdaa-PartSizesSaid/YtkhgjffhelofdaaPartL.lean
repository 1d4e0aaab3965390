/- The walk of the law PartJoins. -/
import Derived.Test.YtkhgjffhelofdaaPartJ
import Derived.Test.YtkhgjffhelofdaaPartLaws
import Derived.Test.YtkhgjffhelofdaaRowKit
namespace Go.Proofs.Ytkhgjffhelofdaa
open Go.RowKit Pt
set_option linter.unusedVariables false

theorem sameB_eq {p q : List Int} (h : p = q) : sameB p q = true := by simp [sameB, h]

set_option maxRecDepth 100000 in
set_option maxHeartbeats 4000000 in
theorem partJoins_walk (v : Value) (n : Nat) (p : List Int) (a b c : Int) (w : World) (hs : Sl w w.heap.size 1 v n (ints p)) (hp : ∀ e ∈ p, wfI e) (_ : wfI a) (_ : wfI b) (_ : wfI c) :
    Calls Try.prog 6 #[v, .int .i64 a, .int .i64 b, .int .i64 c] w (IsTrue w) := by
  clear hp
  have HS := hid hs
  obtain ⟨A, cp, rfl, hnc, hcm, hl, hx⟩ := hs
  have hm : p.length = n := by rw [len_ints] at hl; omega
  subst hm
  clear hl hx hcm
  by_cases h1 : 60 < p.length
  · have h1' : (60 : Int) < (p.length : Int) := by omega
    go_enter Try.func6, Try.ntmps6
    go_wp2_with fail
    refine (awake_any _).mono ?_; rintro e w' ⟨rfl, hb⟩
    go_wp2
    go_ret
    exact ⟨rfl, hb⟩
  have h1' : ¬ (60 : Int) < (p.length : Int) := by omega
  cases hr : rightB p
  · have HR := hid hr
    clear hr
    go_enter Try.func6, Try.ntmps6
    go_wp2_with fail
    refine (right_is false HR.out HS.out).mono ?_; rintro e w' ⟨rfl, rfl⟩
    go_wp2_with fail
    refine (awake_any _).mono ?_; rintro e w' ⟨rfl, hb⟩
    go_wp2
    go_ret
    exact ⟨rfl, hb⟩
  have HR := hid hr
  clear hr
  have key : ∀ (w8 : World) (v1 vx vy : Value), True := fun _ _ _ _ => trivial
  clear key
  have hcase : Hid (InR p.length a ∧ InR p.length b ∧ InR p.length c) ∧ (0 ≤ a ∧ 0 ≤ b ∧ 0 ≤ c ∧ a < p.length ∧ b < p.length ∧ c < p.length) ∨
      (¬ 0 ≤ a) ∨ (0 ≤ a ∧ ¬ 0 ≤ b) ∨ (0 ≤ a ∧ 0 ≤ b ∧ ¬ 0 ≤ c) ∨ (0 ≤ a ∧ 0 ≤ b ∧ 0 ≤ c ∧ ¬ a < p.length) ∨ (0 ≤ a ∧ 0 ≤ b ∧ 0 ≤ c ∧ a < p.length ∧ ¬ b < p.length) ∨ (0 ≤ a ∧ 0 ≤ b ∧ 0 ≤ c ∧ a < p.length ∧ b < p.length ∧ ¬ c < p.length) := by
    unfold Hid InR; omega
  rcases hcase with ⟨hin, h⟩ | h | h | h | h | h | h
  case inl =>
    obtain ⟨e1, e2, e3, e4, e5, e6⟩ := h
    go_enter Try.func6, Try.ntmps6
    go_wp2_with fail
    refine (right_is true HR.out HS.out).mono ?_; rintro e w' ⟨rfl, rfl⟩
    go_wp2_with fail
    refine (join_any _ _ _ p a b _ HS.out (Nat.le_refl _) (by omega)).mono ?_; rintro e w1 ⟨va, rfl, hA1, hB1⟩
    have hS1 := HS.out.call hB1
    go_wp2_with fail
    refine (join_any _ _ _ p b a _ hS1 (Nat.le_refl _) (by omega)).mono ?_; rintro e w2 ⟨vb, rfl, hC2, hb2⟩
    have hS2 := hS1.call hb2
    have hA2 := hA1.call hb2
    have hB2 := Bl.call hB1 hb2
    clear hS1 hA1 hB1 hb2
    go_wp2_with fail
    refine (join_any _ _ _ p a b _ hS2 (Nat.le_refl _) (by omega)).mono ?_; rintro e w3 ⟨v3, rfl, hX3, hb3⟩
    have hS3 := hS2.call hb3
    have hA3 := hA2.call hb3
    have hC3 := hC2.call hb3
    have hB3 := Bl.call hB2 hb3
    clear hS2 hA2 hC2 hB2 hb3
    go_wp2_with fail
    refine (join_any _ _ _ (joinF p a b) b c _ hX3 (Nat.le_refl _) (by omega)).mono ?_; rintro e w4 ⟨vx, rfl, hX4, hb4⟩
    have hS4 := hS3.call hb4
    have hA4 := hA3.call hb4
    have hC4 := hC3.call hb4
    have hB4 := Bl.call hB3 hb4
    clear hS3 hA3 hC3 hB3 hb4 hX3
    go_wp2_with fail
    refine (join_any _ _ _ p b c _ hS4 (Nat.le_refl _) (by omega)).mono ?_; rintro e w5 ⟨v5, rfl, hY5, hb5⟩
    have hS5 := hS4.call hb5
    have hA5 := hA4.call hb5
    have hC5 := hC4.call hb5
    have hX5 := hX4.call hb5
    have hB5 := Bl.call hB4 hb5
    clear hS4 hA4 hC4 hB4 hb5 hX4
    go_wp2_with fail
    refine (join_any _ _ _ (joinF p b c) a b _ hY5 (Nat.le_refl _) (by omega)).mono ?_; rintro e w6 ⟨vy, rfl, hY6, hb6⟩
    have hS6 := hS5.call hb6
    have hA6 := hA5.call hb6
    have hC6 := hC5.call hb6
    have hX6 := hX5.call hb6
    have hB6 := Bl.call hB5 hb6
    clear hS5 hA5 hC5 hB5 hb6 hX5 hY5
    go_wp2_with fail
    refine (same_is true (sameB_eq (joinF_comm p a b)) hA6 hC6).mono ?_; rintro e w7 ⟨rfl, hq7⟩
    have hS7 := hS6.cqt hq7
    have hA7 := hA6.cqt hq7
    have hX7 := hX6.cqt hq7
    have hY7 := hY6.cqt hq7
    have hB7 := Bl.qt hB6 hq7
    clear hS6 hA6 hC6 hB6 hX6 hY6 hq7
    go_wp2_with fail
    refine (right_is true (rightB_joinF HR.out a b) hA7).mono ?_; rintro e w' ⟨rfl, rfl⟩
    go_wp2_with fail
    refine (refines_is true (refines_joinF HR.out a b) hS7 hA7).mono ?_; rintro e w8 ⟨rfl, hq8⟩
    have hA8 := hA7.cqt hq8
    have hX8 := hX7.cqt hq8
    have hY8 := hY7.cqt hq8
    have hB8 := Bl.qt hB7 hq8
    clear hS7 hA7 hB7 hX7 hY7 hq8
    go_wp2_with fail
    refine (same_is true (sameB_eq (joinF_swap HR.out hin.out.1 hin.out.2.1 hin.out.2.2)) hX8 hY8).mono ?_; rintro e w9 ⟨rfl, hq9⟩
    have hA9 := hA8.cqt hq9
    have hB9 := Bl.qt hB8 hq9
    clear hA8 hB8 hX8 hY8 hq9
    go_wp2_with fail
    refine (join_any _ _ _ (joinF p a b) a b _ hA9 (Nat.le_refl _) (by omega)).mono ?_; rintro e w10 ⟨vz, rfl, hZ, hb10⟩
    have hA10 := hA9.call hb10
    have hB10 := Bl.call hB9 hb10
    clear hA9 hB9 hb10
    go_wp2_with fail
    refine (same_is true (sameB_eq (joinF_idem HR.out a b)) hZ hA10).mono ?_; rintro e w11 ⟨rfl, hq11⟩
    have hB11 := Bl.qt hB10 hq11
    clear hA10 hB10 hZ hq11
    go_wp2_with fail
    refine (awake_any _).mono ?_; rintro e w12 ⟨rfl, hb12⟩
    go_wp2
    go_ret
    exact ⟨rfl, Bl.call hB11 hb12⟩
  all_goals
    (try obtain ⟨e1, h⟩ := h)
    (try obtain ⟨e2, h⟩ := h)
    (try obtain ⟨e3, h⟩ := h)
    (try obtain ⟨e4, h⟩ := h)
    (try obtain ⟨e5, h⟩ := h)
    go_enter Try.func6, Try.ntmps6
    go_wp2_with fail
    refine (right_is true HR.out HS.out).mono ?_; rintro e w' ⟨rfl, rfl⟩
    go_wp2_with fail
    refine (join_any _ _ _ p a b _ HS.out (Nat.le_refl _) (by omega)).mono ?_; rintro e w1 ⟨va, rfl, hA1, hB1⟩
    have hS1 := HS.out.call hB1
    go_wp2_with fail
    refine (join_any _ _ _ p b a _ hS1 (Nat.le_refl _) (by omega)).mono ?_; rintro e w2 ⟨vb, rfl, hC2, hb2⟩
    have hS2 := hS1.call hb2
    have hA2 := hA1.call hb2
    have hB2 := Bl.call hB1 hb2
    clear hS1 hA1 hB1 hb2
    go_wp2_with fail
    refine (join_any _ _ _ p a b _ hS2 (Nat.le_refl _) (by omega)).mono ?_; rintro e w3 ⟨v3, rfl, hX3, hb3⟩
    have hS3 := hS2.call hb3
    have hA3 := hA2.call hb3
    have hC3 := hC2.call hb3
    have hB3 := Bl.call hB2 hb3
    clear hS2 hA2 hC2 hB2 hb3
    go_wp2_with fail
    refine (join_any _ _ _ (joinF p a b) b c _ hX3 (Nat.le_refl _) (by omega)).mono ?_; rintro e w4 ⟨vx, rfl, hX4, hb4⟩
    have hS4 := hS3.call hb4
    have hA4 := hA3.call hb4
    have hC4 := hC3.call hb4
    have hB4 := Bl.call hB3 hb4
    clear hS3 hA3 hC3 hB3 hb4 hX3 hX4
    go_wp2_with fail
    refine (join_any _ _ _ p b c _ hS4 (Nat.le_refl _) (by omega)).mono ?_; rintro e w5 ⟨v5, rfl, hY5, hb5⟩
    have hS5 := hS4.call hb5
    have hA5 := hA4.call hb5
    have hC5 := hC4.call hb5
    have hB5 := Bl.call hB4 hb5
    clear hS4 hA4 hC4 hB4 hb5
    go_wp2_with fail
    refine (join_any _ _ _ (joinF p b c) a b _ hY5 (Nat.le_refl _) (by omega)).mono ?_; rintro e w6 ⟨vy, rfl, hY6, hb6⟩
    have hS6 := hS5.call hb6
    have hA6 := hA5.call hb6
    have hC6 := hC5.call hb6
    have hB6 := Bl.call hB5 hb6
    clear hS5 hA5 hC5 hB5 hb6 hY5 hY6
    go_wp2_with fail
    refine (same_is true (sameB_eq (joinF_comm p a b)) hA6 hC6).mono ?_; rintro e w7 ⟨rfl, hq7⟩
    have hS7 := hS6.cqt hq7
    have hA7 := hA6.cqt hq7
    have hB7 := Bl.qt hB6 hq7
    clear hS6 hA6 hC6 hB6 hq7
    go_wp2_with fail
    refine (right_is true (rightB_joinF HR.out a b) hA7).mono ?_; rintro e w' ⟨rfl, rfl⟩
    go_wp2_with fail
    refine (refines_is true (refines_joinF HR.out a b) hS7 hA7).mono ?_; rintro e w8 ⟨rfl, hq8⟩
    have hA8 := hA7.cqt hq8
    have hB8 := Bl.qt hB7 hq8
    clear hS7 hA7 hB7 hq8
    go_wp2_with fail
    refine (join_any _ _ _ (joinF p a b) a b _ hA8 (Nat.le_refl _) (by omega)).mono ?_; rintro e w10 ⟨vz, rfl, hZ, hb10⟩
    have hA10 := hA8.call hb10
    have hB10 := Bl.call hB8 hb10
    clear hA8 hB8 hb10
    go_wp2_with fail
    refine (same_is true (sameB_eq (joinF_idem HR.out a b)) hZ hA10).mono ?_; rintro e w11 ⟨rfl, hq11⟩
    have hB11 := Bl.qt hB10 hq11
    clear hA10 hB10 hZ hq11
    go_wp2_with fail
    refine (awake_any _).mono ?_; rintro e w12 ⟨rfl, hb12⟩
    go_wp2
    go_ret
    exact ⟨rfl, Bl.call hB11 hb12⟩
end Go.Proofs.Ytkhgjffhelofdaa
