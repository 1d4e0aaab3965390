/- The walk of the law PartOf. -/
import Derived.Test.YtkhgjffhelofdaaPartJ
import Derived.Test.YtkhgjffhelofdaaRowKit
namespace Go.Proofs.Ytkhgjffhelofdaa
open Go.RowKit Pt
set_option linter.unusedVariables false

theorem rightB_partOf {n : Nat} {l : List Ed} (h : mayB n l = true) : rightB (partOf n (uv l)) = true := (rightB_iff _).2 (Rt_partOf ((mayB_iff _ _).1 h))
theorem sameB_refl (p : List Int) : sameB p p = true := by simp [sameB]

set_option maxRecDepth 100000 in
set_option maxHeartbeats 2000000 in
theorem partOf_walk (n : Int) (v : Value) (m : Nat) (l : List Ed) (w : World) (hn : wfI n) (hs : Sl w w.heap.size 3 v m (eds l)) (hl : ∀ e ∈ l, wfI e.1 ∧ wfI e.2.1 ∧ wfI e.2.2) :
    Calls Try.prog 3 #[.int .i64 n, v] w (IsTrue w) := by
  clear hl hn
  have HS := hid hs
  obtain ⟨A, c, rfl, hnc, hcm, hl, hx⟩ := hs
  have hm : l.length = m := by rw [len_eds] at hl; omega
  subst hm
  clear hl hx hcm
  by_cases h1 : 60 < l.length
  · have h1' : (60 : Int) < (l.length : Int) := by omega
    go_enter Try.func3, Try.ntmps3
    go_wp2_with fail
    refine (awake_any _).mono ?_; rintro e w' ⟨rfl, hb⟩
    go_wp2
    go_ret
    exact ⟨rfl, hb⟩
  have h1' : ¬ (60 : Int) < (l.length : Int) := by omega
  by_cases h2 : 60 < n ∧ n ≤ 1024
  · obtain ⟨h2, h3⟩ := h2
    go_enter Try.func3, Try.ntmps3
    go_wp2_with fail
    refine (awake_any _).mono ?_; rintro e w' ⟨rfl, hb⟩
    go_wp2
    go_ret
    exact ⟨rfl, hb⟩
  by_cases h3 : n < 0 ∨ 1024 < n
  · rcases h3 with h3 | h3
    · have h4 : ¬ 60 < n := by omega
      clear h2
      go_enter Try.func3, Try.ntmps3
      go_wp2_with fail
      refine (of_out (.inl h3) _ _).mono ?_; rintro e w' ⟨rfl, rfl⟩
      go_wp2_with fail
      refine (awake_any _).mono ?_; rintro e w' ⟨rfl, hb⟩
      go_wp2
      go_ret
      exact ⟨rfl, hb⟩
    · have h4 : 60 < n := by omega
      have h5 : ¬ n ≤ 1024 := by omega
      have h6 : ¬ n < 0 := by omega
      clear h2
      go_enter Try.func3, Try.ntmps3
      go_wp2_with fail
      refine (of_out (.inr h3) _ _).mono ?_; rintro e w' ⟨rfl, rfl⟩
      go_wp2_with fail
      refine (awake_any _).mono ?_; rintro e w' ⟨rfl, hb⟩
      go_wp2
      go_ret
      exact ⟨rfl, hb⟩
  have h4 : ¬ 60 < n := by omega
  have h5 : ¬ n < 0 := by omega
  have h6 : ¬ 1024 < n := by omega
  clear h2 h3
  obtain ⟨k, rfl⟩ := Int.eq_ofNat_of_zero_le (show 0 ≤ n by omega)
  have hk : k ≤ 60 := by omega
  cases hmay : mayB k l
  · have HM := hid hmay
    clear hmay
    go_enter Try.func3, Try.ntmps3
    go_wp2_with fail
    refine (of_no (by omega) HS.out (Nat.le_refl _) HM.out).mono ?_; rintro e w1 ⟨rfl, hb1⟩
    have hS1 := HS.out.call hb1
    go_wp2_with fail
    refine (may_is false HM.out hS1).mono ?_; rintro e w' ⟨rfl, rfl⟩
    go_wp2_with fail
    refine (awake_any _).mono ?_; rintro e w2 ⟨rfl, hb2⟩
    go_wp2
    go_ret
    exact ⟨rfl, Bl.call hb1 hb2⟩
  · have HM := hid hmay
    clear hmay
    go_enter Try.func3, Try.ntmps3
    go_wp2_with fail
    refine (of_ok (by omega) HS.out (Nat.le_refl _) HM.out).mono ?_; rintro e w1 ⟨v1, rfl, hP1, hb1⟩
    have hS1 := HS.out.call hb1
    go_wp2_with fail
    refine (may_is true HM.out hS1).mono ?_; rintro e w' ⟨rfl, rfl⟩
    go_wp2_with fail
    refine (refOf_any k (by omega) _ _ _ _ _ hS1 (Nat.le_refl _) HM.out).mono ?_; rintro e w2 ⟨v2, rfl, ho2, hb2⟩
    have hP2 := hP1.call hb2
    have hQ2 := Sl.of_own ho2
    have hB2 := Bl.call hb1 hb2
    clear ho2 hb2 hP1 hS1 hb1
    go_wp2_with fail
    refine (same_is true (sameB_refl _) hP2 hQ2).mono ?_; rintro e w3 ⟨rfl, hq3⟩
    have hP3 := hP2.cqt hq3
    have hB3 := Bl.qt hB2 hq3
    clear hq3 hP2 hB2 hQ2
    go_wp2_with fail
    refine (right_is true (rightB_partOf HM.out) hP3).mono ?_; rintro e w' ⟨rfl, rfl⟩
    go_wp2_with fail
    refine (awake_any _).mono ?_; rintro e w4 ⟨rfl, hb4⟩
    go_wp2
    go_ret
    exact ⟨rfl, Bl.call hB3 hb4⟩
end Go.Proofs.Ytkhgjffhelofdaa
