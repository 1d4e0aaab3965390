/- Directories: their keys. -/
import Derived.Test.YtcbedngimgkcoaaVertsLaws2
set_option linter.unusedVariables false
namespace Vt
theorem ks_getD (d : List (Int × Int)) {p : Nat} (hp : p < d.length) : (ks d).getD p 0 = d[p].1 := by simp [ks, List.getD, hp]
theorem ks_find {l : List Sl} {d : List (Int × Int)} (ho : Ok l) (h : Of l d) {p : Nat} (hp : p < d.length) : ∃ j, fn l ((ks d).getD p 0) = some j ∧ ∃ hj : j < l.length, l[j] = (true, (ks d).getD p 0) := by
  rw [ks_getD d hp]
  obtain ⟨i, -, hi⟩ := (h.2.2 d[p].1 d[p].2).1 (List.getElem_mem hp)
  exact ⟨i, dir_fn ho.2.2 hi, List.getElem?_eq_some_iff.1 hi⟩
theorem ks_rise {d : List (Int × Int)} (h : Dc.Srt d) {p q : Nat} (hpq : p < q) (hq : q < d.length) : (ks d).getD p 0 < (ks d).getD q 0 := by
  rw [ks_getD d (by omega), ks_getD d hq]
  exact List.pairwise_iff_getElem.1 h p q (by omega) hq hpq
theorem ks_mem {l : List Sl} {d : List (Int × Int)} (ho : Ok l) (h : Of l d) (k : Int) : (fn l k).isSome = (ks d).contains k := by
  rw [Bool.eq_iff_iff, List.contains_iff_mem]
  constructor
  · intro hs
    cases hf : fn l k with
    | none => rw [hf] at hs; cases hs
    | some j =>
      have := (h.2.2 k (j : Int)).2 ⟨j, rfl, fn_some hf⟩
      exact List.mem_map.2 ⟨_, this, rfl⟩
  · intro hm
    obtain ⟨e, he, rfl⟩ := List.mem_map.1 hm
    obtain ⟨i, -, hi⟩ := (h.2.2 e.1 e.2).1 he
    rw [dir_fn ho.2.2 hi]; rfl
theorem contains_take (ks : List Int) (k : Int) {i : Nat} (hi : i < ks.length) : (ks.take (i + 1)).contains k = ((ks.take i).contains k || ks.getD i 0 == k) := by
  have e : ks.getD i 0 = ks[i] := by simp [List.getD, hi]
  rw [List.take_succ_eq_append_getElem hi, e, Bool.eq_iff_iff]
  simp only [List.contains_iff_mem, Bool.or_eq_true, List.mem_append, List.mem_singleton, beq_iff_eq]
  constructor
  · rintro (h | h)
    · exact .inl h
    · exact .inr h.symm
  · rintro (h | h)
    · exact .inl h
    · exact .inr h.symm
end Vt
