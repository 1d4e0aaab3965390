/- Directories: adding and removing back again. -/
import Derived.Test.YtcbedngimgkcoaaVertsLaws
set_option linter.unusedVariables false
namespace Vt
theorem dir_free {l : List Sl} (hd : Dir l) {v : Nat} (h : v < l.length) (hu : l[v].1 = false) : l[v] = (false, 0) := by
  have h2 := hd.1 l[v] (List.getElem_mem h) hu
  generalize l[v] = s at *
  obtain ⟨a, b⟩ := s
  simp at hu h2
  rw [hu, h2]
theorem at_fn {l : List Sl} {k : Int} {j : Nat} (hf : fn l k = some j) : ∃ h : j < l.length, l[j] = (true, k) := List.getElem?_eq_some_iff.1 (fn_some hf)
theorem back3 {l : List Sl} (ho : Ok l) {k : Int} (hk : fn l k = none) {v : Nat} (hf : ff l = some v) : Ok (l.set v (true, k)) ∧ fn (l.set v (true, k)) k = some v ∧ (l.set v (true, k)).set v (false, 0) = l := by
  obtain ⟨hv, hu, -⟩ := ff_some hf
  have ho2 := ok_add ho hk hv
  refine ⟨ho2, dir_fn ho2.2.2 (by simp [hv]), ?_⟩
  rw [List.set_set, ← dir_free ho.2.2 hv hu, List.set_getElem_self]
theorem back4 {l : List Sl} (ho : Ok l) {k : Int} {j : Nat} (hf : fn l k = some j) :
    Ok (l.set j (false, 0)) ∧ fn (l.set j (false, 0)) k = none ∧ ∃ f, ff (l.set j (false, 0)) = some f ∧ f ≤ j ∧ (∀ p (h : p < l.length), p < f → l[p].1 = true) ∧ (f < j → ∀ h : f < l.length, l[f].1 = false) ∧ (f = j → (l.set j (false, 0)).set f (true, k) = l) := by
  obtain ⟨hj, hlj⟩ := at_fn hf
  have ho2 := ok_rem ho hj
  refine ⟨ho2, ?_, ?_⟩
  · apply fn_none
    intro i hi
    rw [List.getElem_set]
    split
    · simp
    · intro ⟨a, b⟩
      have hi' : i < l.length := by simpa using hi
      have : l[i]? = some (true, k) := by rw [List.getElem?_eq_getElem hi', ← a, ← b]
      have := ho.2.2.2 i j k this (fn_some hf)
      omega
  · cases hff : ff (l.set j (false, 0)) with
    | none =>
      have := ff_none' hff j (by simpa using hj)
      simp at this
    | some f =>
      obtain ⟨h1, h2, h3⟩ := ff_some hff
      have hfj : f ≤ j := by
        rcases Nat.lt_or_ge j f with h | h
        · have := h3 j h; simp at this
        · exact h
      refine ⟨f, rfl, hfj, fun p hp hpf => ?_, fun hlt h => ?_, fun e => ?_⟩
      · have := h3 p hpf
        rwa [List.getElem_set_ne (by omega)] at this
      · rwa [List.getElem_set_ne (by omega)] at h2
      · subst e
        rw [List.set_set, ← hlj, List.set_getElem_self]
end Vt
