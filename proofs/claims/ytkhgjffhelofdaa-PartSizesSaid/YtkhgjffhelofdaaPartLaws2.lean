import Derived.Test.YtkhgjffhelofdaaPartLaws
namespace Pt

/-! ## One edge from each vertex to the one ahead -/
def chain (m : Nat) : List Ed := (List.range m).map fun t : Nat => ((t : Int) + 1, (t : Int), 0)
theorem len_chain (m : Nat) : (chain m).length = m := by simp [chain]
theorem chain_snoc (m : Nat) : chain m ++ [((m : Int) + 1, (m : Int), 0)] = chain (m + 1) := by simp [chain, List.range_succ]
theorem mem_chain {m : Nat} {e : Int × Int} : e ∈ uv (chain m) ↔ ∃ t : Nat, t < m ∧ e = ((t : Int) + 1, (t : Int)) := by
  unfold uv chain
  simp only [List.map_map, List.mem_map, List.mem_range, Function.comp]
  constructor
  · rintro ⟨t, h, rfl⟩; exact ⟨t, h, rfl⟩
  · rintro ⟨t, h, rfl⟩; exact ⟨t, h, rfl⟩
theorem may_chain (k : Nat) : MayL k (uv (chain (k - 1))) := by
  intro e he
  obtain ⟨t, ht, rfl⟩ := mem_chain.1 he
  constructor <;> constructor <;> simp <;> omega
theorem g_rep {k : Nat} (x : Int) : g (List.replicate k (0 : Int)) x = 0 := by
  unfold g
  by_cases h : x.toNat < k <;> simp [List.getD, h]
theorem Rt_rep (k : Nat) : Rt (List.replicate k (0 : Int)) := by
  intro v hv
  rw [g_rep, g_rep]
  unfold InR at hv; omega
theorem chain_part (k : Nat) : partOf k (uv (chain (k - 1))) = List.replicate k 0 := by
  symm
  refine partOf_unique (may_chain k) (by simp) (fun x hx => ?_) (fun e _ => by rw [g_rep, g_rep]) (fun x hx => ?_)
  · rw [g_rep]; unfold InR at *; omega
  · rw [g_rep]
    obtain ⟨t, rfl⟩ := Int.eq_ofNat_of_zero_le hx.1
    have ht : t < k := by have := hx.2; omega
    clear hx
    induction t with
    | zero => rfl
    | succ t ih =>
      have h1 := made_partOf (may_chain k) ((t : Int) + 1, (t : Int)) (mem_chain.2 ⟨t, by omega, rfl⟩)
      simp only [] at h1
      rw [ih (by omega)]
      exact h1.symm
theorem cnt_rep (k : Nat) : cnt (List.replicate k (0 : Int)) = min k 1 := by
  unfold cnt
  rw [List.length_replicate]
  cases k with
  | zero => rfl
  | succ k =>
    rw [countP_but (n := k + 1) (m := 0) (by omega) (f := fun v : Nat => decide (g (List.replicate (k + 1) (0 : Int)) (v : Int) = (v : Int))) (h := fun _ => false) ?_ ?_ rfl]
    · simp
    · intro i hi hne; simp only [g_rep]; simp; omega
    · simp [g_rep]
theorem many_idl (k : Nat) : manyZ (idl k) = k := by rw [manyZ_of (Rt_idl k), cnt_idl]
theorem many_rep (k : Nat) : manyZ (List.replicate k (0 : Int)) = min k 1 := by rw [manyZ_of (Rt_rep k), cnt_rep]
theorem refines_rep (k : Nat) : refinesB (idl k) (List.replicate k (0 : Int)) = true :=
  (refinesB_iff _ _).2 ⟨Rt_idl k, Rt_rep k, by rw [len_idl]; simp, fun v _ => by rw [g_rep, g_rep]⟩
end Pt
