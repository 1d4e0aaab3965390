/- Contracts of grove.vertex, grove.other, name.Less, grove.Right. -/
import Derived.Test.YtbafbnkmmpaomaaGroA
namespace Go.Proofs.Ytbafbnkmmpaomaa
open Go.RowKit Pt
set_option linter.unusedVariables false

theorem fst_may {n : Nat} {l : List Ed} (h : Fst n (uv l)) : mayB n l = true := (mayB_iff n l).2 h.1
theorem fst_many {n : Nat} {l : List Ed} (h : Fst n (uv l)) : (manyZ (partOf n (uv l)) : Int) = (n : Int) - (l.length : Int) := by
  have h1 := (rightB_iff _).2 (Rt_partOf h.1)
  have h2 := h.2
  have h3 : (uv l).length = l.length := by simp [uv]
  unfold manyZ
  rw [h1]
  simp
  omega

theorem gright_yes {n : Nat} (hn : n ≤ 1024) {v : Value} {m : Nat} {l : List Ed} {w : World} (hs : Sl w w.heap.size 3 v m (eds l)) (hf : Fst n (uv l)) :
    Calls Try.prog 46 #[.int .i64 n, v] w fun e w' => e = .returned (.bool true) ∧ Below w.heap.size w w' := by
  have hl : l.length = m := by have := hs.len; rw [len_eds] at this; omega
  subst hl
  have HS := hid hs
  obtain ⟨A, c, rfl, hnc, hcm, hll, hx⟩ := hs
  have hm := hid (fst_may hf)
  obtain ⟨k, hk⟩ : ∃ k : Int, k = (n : Int) - (l.length : Int) := ⟨_, rfl⟩
  have hmany : Hid ((manyZ (partOf n (uv l)) : Int) = k) := hid (by rw [hk]; exact fst_many hf)
  have hcm' : (l.length : Int) ≤ 9223372036854775807 := by unfold maxLen at hcm; omega
  have hle : l.length ≤ n := by have := hf.2; have h3 : (uv l).length = l.length := by simp [uv]
                                omega
  have r1 : (k == k) = true := by simp
  have hk2 : (n : Int) - (l.length : Int) = k := hk.symm
  clear hll hx hf hcm hk
  go_enter Try.func46, Try.ntmps46
  go_wp2_with fail
  refine (of_ok hn HS.out (Nat.le_refl _) hm.out).mono ?_; rintro e w1 ⟨v1, rfl, hS, hB⟩
  have HB := hid hB
  clear hB
  go_wp2_with fail
  refine (many_is k hmany.out hS).mono ?_; rintro e w' ⟨rfl, rfl⟩
  go_wp2
  go_ret
  exact ⟨rfl, HB.out⟩

theorem gright_no {n : Nat} (hn : n ≤ 1024) {v : Value} {m : Nat} {l : List Ed} {w : World} (hs : Sl w w.heap.size 3 v m (eds l)) (hf : ¬ Fst n (uv l)) :
    Calls Try.prog 46 #[.int .i64 n, v] w fun e w' => e = .returned (.bool false) ∧ Below w.heap.size w w' := by
  have hl : l.length = m := by have := hs.len; rw [len_eds] at this; omega
  subst hl
  have HS := hid hs
  obtain ⟨A, c, rfl, hnc, hcm, hll, hx⟩ := hs
  have hcm' : (l.length : Int) ≤ 9223372036854775807 := by unfold maxLen at hcm; omega
  cases hm : mayB n l
  · have HM := hid hm
    clear hll hx hf hcm hm
    go_enter Try.func46, Try.ntmps46
    go_wp2_with fail
    refine (of_no hn HS.out (Nat.le_refl _) HM.out).mono ?_; rintro e w1 ⟨rfl, hB⟩
    have HB := hid hB
    clear hB
    go_wp2
    go_ret
    exact ⟨rfl, HB.out⟩
  · have HM := hid hm
    have hml := (mayB_iff n l).1 hm
    obtain ⟨k, hk⟩ : ∃ k : Nat, k = manyZ (partOf n (uv l)) := ⟨_, rfl⟩
    have hkl : k ≤ 1024 := by
      have h1 := (rightB_iff _).2 (Rt_partOf hml)
      have h2 := cntK_le (partOf n (uv l)) (partOf n (uv l)).length
      rw [cntK_all, len_partOf] at h2
      rw [hk]; unfold manyZ; rw [h1]; simp; omega
    have r1 : ((k : Int) == (n : Int) - (l.length : Int)) = false := by
      rw [beq_eq_false_iff_ne]
      intro h
      apply hf
      refine ⟨hml, ?_⟩
      have h1 := (rightB_iff _).2 (Rt_partOf hml)
      have h3 : (uv l).length = l.length := by simp [uv]
      unfold manyZ at hk
      rw [h1] at hk
      simp at hk
      omega
    have HK : Hid ((manyZ (partOf n (uv l)) : Int) = (k : Int)) := hid (by rw [hk])
    clear hll hx hf hcm hm hml hk
    go_enter Try.func46, Try.ntmps46
    go_wp2_with fail
    refine (of_ok hn HS.out (Nat.le_refl _) HM.out).mono ?_; rintro e w1 ⟨v1, rfl, hS, hB⟩
    have HB := hid hB
    clear hB
    go_wp2_with fail
    refine (many_is (k : Int) HK.out hS).mono ?_; rintro e w' ⟨rfl, rfl⟩
    go_wp2
    go_ret
    exact ⟨rfl, HB.out⟩

theorem gright_out {n : Int} (hn : n < 0 ∨ 1024 < n) (v : Value) (w : World) :
    Calls Try.prog 46 #[.int .i64 n, v] w fun e w' => e = .returned (.bool false) ∧ w = w' := by
  have HN := hid hn
  clear hn
  go_enter Try.func46, Try.ntmps46
  go_wp2_with fail
  refine (of_out HN.out _ _).mono ?_; rintro e w1 ⟨rfl, rfl⟩
  go_wp2
  go_ret
  exact ⟨rfl, rfl⟩
end Go.Proofs.Ytbafbnkmmpaomaa
