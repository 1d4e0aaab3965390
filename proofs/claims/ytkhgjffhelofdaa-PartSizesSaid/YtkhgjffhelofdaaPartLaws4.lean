import Derived.Test.YtkhgjffhelofdaaPartLaws2
set_option linter.unusedVariables false
namespace Pt

/-- Which vertices have been met: those of the classes of the first k, and the first j of one class more. -/
def seenJ (p : List Int) (k : Nat) (cl : List Int) (j : Nat) : List Int := (List.range p.length).map fun x : Nat => if g p (x : Int) < (k : Int) ∨ (x : Int) ∈ cl.take j then 1 else 0
theorem len_seenJ (p : List Int) (k : Nat) (cl : List Int) (j : Nat) : (seenJ p k cl j).length = p.length := by simp [seenJ]
theorem seen_start {p : List Int} (h : Rt p) : seenJ p 0 [] 0 = List.replicate p.length 0 := by
  apply List.ext_getElem
  · simp [seenJ]
  · intro i h1 h2
    have hi : i < p.length := by simpa [seenJ] using h1
    have := (h (i : Int) ⟨by omega, by omega⟩).1
    simp [seenJ]; omega
theorem seen_skip {p : List Int} (h : Rt p) {k : Nat} (hk : k < p.length) (hne : g p (k : Int) ≠ (k : Int)) : seenJ p (k + 1) [] 0 = seenJ p k [] 0 := by
  apply List.ext_getElem
  · simp [seenJ]
  · intro i h1 h2
    have hi : i < p.length := by simpa [seenJ] using h1
    have hx := h (i : Int) ⟨by omega, by omega⟩
    have hne2 : g p (i : Int) ≠ (k : Int) := fun e => hne (by rw [e] at hx; exact hx.2.2)
    simp only [seenJ, List.getElem_map, List.getElem_range, List.take_nil, List.not_mem_nil, or_false]
    by_cases hlt : g p (i : Int) < (k : Int)
    · rw [if_pos (by omega), if_pos hlt]
    · rw [if_neg (by omega), if_neg hlt]
theorem seen_zero (p : List Int) (k : Nat) (cl : List Int) : seenJ p k cl 0 = seenJ p k [] 0 := by simp [seenJ]
theorem seen_class {p : List Int} (h : Rt p) {k : Nat} (hk : k < p.length) (he : g p (k : Int) = (k : Int)) :
    seenJ p k (clK p (k : Int) p.length) (clK p (k : Int) p.length).length = seenJ p (k + 1) [] 0 := by
  apply List.ext_getElem
  · simp [seenJ]
  · intro i h1 h2
    have hi : i < p.length := by simpa [seenJ] using h1
    simp only [seenJ, List.getElem_map, List.getElem_range, List.take_nil, List.not_mem_nil, or_false, List.take_length, mem_clK, he]
    have hir : InR p.length (i : Int) := ⟨by omega, by omega⟩
    by_cases hlt : g p (i : Int) < ((k + 1 : Nat) : Int)
    · rw [if_pos hlt, if_pos]
      by_cases h3 : g p (i : Int) < (k : Int)
      · exact .inl h3
      · exact .inr ⟨hir, by omega⟩
    · rw [if_neg hlt, if_neg]
      rintro (h3 | ⟨_, h3⟩) <;> omega
theorem getD_seen {p : List Int} {k : Nat} {cl : List Int} {j : Nat} {x : Nat} (hx : x < p.length) : (seenJ p k cl j).getD x 0 = if g p (x : Int) < (k : Int) ∨ (x : Int) ∈ cl.take j then 1 else 0 := by
  simp [seenJ, List.getD, hx]
/-- The next one of a class has not been met. -/
theorem seen_next {p : List Int} {k j : Nat} (he : g p (k : Int) = (k : Int)) (hj : j < (clK p (k : Int) p.length).length) :
    InR p.length ((clK p (k : Int) p.length).getD j 0) ∧ (seenJ p k (clK p (k : Int) p.length) j).getD ((clK p (k : Int) p.length).getD j 0).toNat 0 = 0 ∧
      (seenJ p k (clK p (k : Int) p.length) j).set ((clK p (k : Int) p.length).getD j 0).toNat 1 = seenJ p k (clK p (k : Int) p.length) (j + 1) := by
  have hm := mem_clK.1 (at_mem hj)
  have ha := asc_clK p (k : Int) p.length
  rw [he] at hm
  have hsnoc := List.take_succ_eq_append_getElem hj
  have hgd : (clK p (k : Int) p.length).getD j 0 = (clK p (k : Int) p.length)[j] := by simp [List.getD, hj]
  have hnot : (clK p (k : Int) p.length).getD j 0 ∉ (clK p (k : Int) p.length).take j := by
    intro hin
    obtain ⟨i, hi, hie⟩ := List.getElem_of_mem hin
    have hi' : i < j := by simp at hi; omega
    have := List.pairwise_iff_getElem.1 ha i j (by omega) hj hi'
    rw [List.getElem_take] at hie
    rw [hgd] at hie
    omega
  generalize hcl : clK p (k : Int) p.length = cl at *
  generalize hv : cl.getD j 0 = v at *
  obtain ⟨hr, hg⟩ := hm
  have hvn : ((v.toNat : Nat) : Int) = v := by unfold InR at hr; omega
  have hvl : v.toNat < p.length := by unfold InR at hr; omega
  refine ⟨hr, ?_, ?_⟩
  · rw [getD_seen hvl, hvn, if_neg]
    rintro (h3 | h3)
    · omega
    · exact hnot h3
  · apply List.ext_getElem
    · simp [seenJ]
    · intro i h1 h2
      have hi : i < p.length := by simpa [seenJ] using h2
      simp only [List.getElem_set, seenJ, List.getElem_map, List.getElem_range]
      by_cases hiv : v.toNat = i
      · rw [if_pos hiv, if_pos]
        rw [hsnoc]
        exact .inr (List.mem_append.2 (.inr (by rw [← hgd]; simp; omega)))
      · rw [if_neg hiv]
        have e : ((i : Int) ∈ cl.take (j + 1)) ↔ ((i : Int) ∈ cl.take j) := by
          rw [hsnoc, List.mem_append]
          constructor
          · rintro (h | h)
            · exact h
            · rw [← hgd] at h; simp at h; omega
          · exact .inl
        simp only [e]
theorem seen_all {p : List Int} (h : Rt p) {x : Nat} (hx : x < p.length) : (seenJ p p.length [] 0).getD x 0 = 1 := by
  rw [getD_seen hx, if_pos]
  have := h (x : Int) ⟨by omega, by omega⟩
  exact .inl (by omega)
theorem refines_trans {p q r : List Int} (h1 : refinesB p q = true) (h2 : refinesB q r = true) : refinesB p r = true := by
  rw [refinesB_iff] at *
  obtain ⟨hp, hq, hl, h⟩ := h1
  obtain ⟨_, hr, hl2, h'⟩ := h2
  refine ⟨hp, hr, by omega, fun v hv => ?_⟩
  have a := h' v (by rw [← hl]; exact hv)
  have b := h' (g p v) (by rw [← hl]; exact hp.inr hv)
  rw [a, h v hv, ← b]
theorem refines_both {p q : List Int} (hp : rightB p = true) : (refinesB p q && refinesB q p) = (p == q) := by
  rw [Bool.eq_iff_iff]
  simp only [Bool.and_eq_true, beq_iff_eq]
  constructor
  · rintro ⟨h1, h2⟩
    rw [refinesB_iff] at h1 h2
    refine both_ways h1.2.2.1 h1.1 h1.2.1 h1.2.2.2 (fun t ht => ?_)
    exact h2.2.2.2 t (by rw [← h1.2.2.1]; exact ht)
  · rintro rfl
    exact ⟨refines_refl ((rightB_iff p).1 hp), refines_refl ((rightB_iff p).1 hp)⟩
end Pt
