/- Toggling one name in an empty sketch: how many names stand in it. -/
import Derived.Test.YtomgbhnalhddiaaSketchB
set_option linter.unusedVariables false
namespace Sk
theorem E_small {n : Nat} (h : isE n = true) : n / 16777216 < 16777216 := by
  unfold isE at h
  have := of_decide_eq_true h
  omega
theorem tog_zero {l : List (Nat × Nat)} {v n N : Nat} {x : Nat} (h : x ∈ tog l v n (List.replicate N 0)) : x = 0 ∨ x = n := by
  unfold tog at h
  rw [List.mem_mapIdx] at h
  obtain ⟨i, hi, rfl⟩ := h
  simp only [List.getElem_replicate]
  unfold tog1
  split
  · right; exact Nat.zero_xor n
  · left; rfl
theorem isE_zero : isE 0 = false := by decide
theorem nms_rep {l : List (Nat × Nat)} {v n N : Nat} : nms (tog l v n (List.replicate N 0)) = List.replicate (nms (tog l v n (List.replicate N 0))).length n := by
  refine List.eq_replicate_of_mem ?_
  intro b hb
  unfold nms at hb
  rw [List.mem_filter] at hb
  rcases tog_zero hb.1 with h | h
  · subst h; rw [isE_zero] at hb; exact absurd hb.2 (by simp)
  · exact h
theorem rows_le {V : Nat} (hV : 0 < V) : ∀ (R : Nat) (ws : List Nat), ws.length = R * V → (∀ r, r < R → isE (ws.getD (r * V) 0) = true) → R ≤ (nms ws).length
  | 0, _, _, _ => Nat.zero_le _
  | R + 1, ws, hl, h => by
    have hl' : V ≤ ws.length := by rw [hl]; exact Nat.le_mul_of_pos_left V (Nat.succ_pos R)
    have e : nms ws = nms (ws.take V) ++ nms (ws.drop V) := by
      unfold nms
      rw [← List.filter_append, List.take_append_drop]
    have i := rows_le hV R (ws.drop V) (by rw [List.length_drop, hl, Nat.add_mul]; omega) (fun r hr => by
      have := h (r + 1) (by omega)
      rw [Nat.add_mul, Nat.one_mul] at this
      rw [List.getD_eq_getElem?_getD, List.getElem?_drop, Nat.add_comm, ← List.getD_eq_getElem?_getD]
      exact this)
    have h0 := h 0 (by omega)
    have p : 1 ≤ (nms (ws.take V)).length := by
      have hm : ws.getD (0 * V) 0 ∈ nms (ws.take V) := by
        unfold nms
        rw [List.mem_filter]
        refine ⟨?_, h0⟩
        rw [List.mem_take_iff_getElem]
        refine ⟨0, by omega, ?_⟩
        rw [Nat.zero_mul, List.getD_eq_getElem?_getD, List.getElem?_eq_getElem (by omega)]
        rfl
      exact List.length_pos_of_mem hm
    rw [e, List.length_append]
    omega
theorem one_least {l : List (Nat × Nat)} {v n : Nat} (hv : 0 < v) (hE : isE n = true) : l.length ≤ (nms (tog l v n (List.replicate (l.length * v) 0))).length := by
  refine rows_le hv l.length _ (by rw [len_tog, List.length_replicate]) ?_
  intro r hr
  have hlt : r * v < l.length * v := Nat.mul_lt_mul_of_pos_right hr hv
  rw [List.getD_eq_getElem?_getD, tog_at, List.getElem?_replicate, if_pos hlt, Option.map_some, Option.getD_some, Nat.mul_mod_left, tog1_first, Nat.zero_xor]
  exact hE
theorem one_most {l : List (Nat × Nat)} {v n N : Nat} : (nms (tog l v n (List.replicate N 0))).length ≤ N := by
  have := nms_len (tog l v n (List.replicate N 0))
  rw [len_tog, List.length_replicate] at this
  exact this
end Sk
