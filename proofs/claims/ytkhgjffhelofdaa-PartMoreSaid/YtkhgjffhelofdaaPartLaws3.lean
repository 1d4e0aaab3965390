import Derived.Test.YtkhgjffhelofdaaPartLaws
namespace Pt

theorem uv_app (l m : List Ed) : uv (l ++ m) = uv l ++ uv m := by simp [uv]
theorem mayB_app (n : Int) (l m : List Ed) : mayB n (l ++ m) = (mayB n l && mayB n m) := by simp [mayB]
theorem mayB_one (n u v : Int) (t : Int) : mayB n [(u, v, t)] = (placeB n u && placeB n v) := by simp [mayB, edB]
/-- Edges turned round, from some place on backwards. -/
def turnK (l : List Ed) (by_ : Nat) (k : Nat) : List Ed := (List.range k).map fun i => let x := l.getD ((l.length - i + by_) % l.length) (0, 0, 0); (x.2.1, x.1, 0)
theorem len_turnK (l : List Ed) (b k : Nat) : (turnK l b k).length = k := by simp [turnK]
theorem turnK_snoc (l : List Ed) (b k : Nat) : turnK l b (k + 1) = turnK l b k ++ [((l.getD ((l.length - k + b) % l.length) (0, 0, 0)).2.1, (l.getD ((l.length - k + b) % l.length) (0, 0, 0)).1, 0)] := by
  simp [turnK, List.range_succ]
theorem turn_index {m b t : Nat} (ht : t < m) : ∃ i, i < m ∧ (m - i + b) % m = t := by
  refine ⟨(b + (m - t)) % m, Nat.mod_lt _ (by omega), ?_⟩
  have h1 : (b + (m - t)) % m < m := Nat.mod_lt _ (by omega)
  have h2 : (m - (b + (m - t)) % m + b + (b + (m - t)) % m) = m + b := by omega
  have h3 := Nat.div_add_mod (b + (m - t)) m
  -- m - r + b = t + m * q for some q
  have h4 : m - (b + (m - t)) % m + b = t + m * ((b + (m - t)) / m) := by
    have : m * ((b + (m - t)) / m) + (b + (m - t)) % m = b + (m - t) := h3
    omega
  rw [h4, Nat.add_mul_mod_self_left, Nat.mod_eq_of_lt ht]
theorem mem_turn {l : List Ed} {b : Nat} {e : Int × Int} : e ∈ uv (turnK l b l.length) ↔ (e.2, e.1) ∈ uv l := by
  unfold uv turnK
  simp only [List.map_map, List.mem_map, List.mem_range, Function.comp]
  constructor
  · rintro ⟨i, hi, rfl⟩
    have hm : (l.length - i + b) % l.length < l.length := Nat.mod_lt _ (by omega)
    exact ⟨l[(l.length - i + b) % l.length], List.getElem_mem _, by simp [List.getD, hm]⟩
  · rintro ⟨d, hd, he⟩
    obtain ⟨t, ht, rfl⟩ := List.getElem_of_mem hd
    obtain ⟨i, hi, hit⟩ := turn_index (b := b) ht
    refine ⟨i, hi, ?_⟩
    rw [hit]
    simp [List.getD, ht] at he ⊢
    obtain ⟨h1, h2⟩ := he
    rw [h1, h2]
theorem may_turn {n : Nat} {l : List Ed} {b : Nat} (h : mayB n l = true) : mayB n (turnK l b l.length) = true := by
  rw [mayB_iff] at *
  intro e he
  have := h _ (mem_turn.1 he)
  exact ⟨this.2, this.1⟩
theorem turn_part {n : Nat} {l : List Ed} {b : Nat} (h : mayB n l = true) : partOf n (uv l) = partOf n (uv (turnK l b l.length)) := by
  have h' := may_turn (b := b) h
  rw [mayB_iff] at h h'
  exact partOf_same h h' (fun e he => .inr (mem_turn.2 (by simpa using he))) (fun e he => .inr (mem_turn.1 he))
theorem more_part {n : Nat} {l : List Ed} {u v t : Int} (h : mayB n (l ++ [(u, v, t)]) = true) :
    mayB n l = true ∧ InR n u ∧ InR n v ∧ partOf n (uv (l ++ [(u, v, t)])) = joinF (partOf n (uv l)) u v ∧ refinesB (partOf n (uv l)) (partOf n (uv (l ++ [(u, v, t)]))) = true ∧
      (manyZ (partOf n (uv (l ++ [(u, v, t)]))) ≤ manyZ (partOf n (uv l)) ∧ manyZ (partOf n (uv l)) ≤ manyZ (partOf n (uv (l ++ [(u, v, t)]))) + 1) := by
  rw [mayB_app, mayB_one] at h
  simp only [Bool.and_eq_true, placeB_iff] at h
  obtain ⟨h1, hu, hv⟩ := h
  have hR := Rt_partOf ((mayB_iff _ _).1 h1)
  have hl : (partOf n (uv l)).length = n := len_partOf _ _
  have e1 : partOf n (uv (l ++ [(u, v, t)])) = joinL (partOf n (uv l)) u v := by rw [uv_app]; exact partOf_snoc _ _ _
  have e2 : joinF (partOf n (uv l)) u v = joinL (partOf n (uv l)) u v := joinF_in ((rightB_iff _).2 hR) (by rw [hl]; exact hu) (by rw [hl]; exact hv)
  have hR2 := hR.join (u := u) (v := v) (by rw [hl]; exact hu) (by rw [hl]; exact hv)
  refine ⟨h1, hu, hv, by rw [e1, e2], by rw [e1]; exact refines_join hR (by rw [hl]; exact hu) (by rw [hl]; exact hv), ?_⟩
  rw [e1, manyZ_of hR, manyZ_of hR2]
  have := cnt_joinL hR (u := u) (v := v) (by rw [hl]; exact hu) (by rw [hl]; exact hv)
  omega
end Pt
