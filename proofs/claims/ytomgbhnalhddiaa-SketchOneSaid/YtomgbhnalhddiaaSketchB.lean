/- Toggling, as far as it has come; names that are edges. -/
import Derived.Test.YtomgbhnalhddiaaSketchPlain
set_option linter.unusedVariables false
namespace Sk

/-- The first r rows are toggled, and of the next one the first i levels. -/
def part (l : List (Nat × Nat)) (v n : Nat) (ws : List Nat) (r i : Nat) : List Nat :=
  ws.mapIdx fun t w => if t / v < r then tog1 (l.getD (t / v) (0, 0)) n (t % v) w else if t / v = r ∧ t % v < i then w ^^^ n else w
theorem len_part (l : List (Nat × Nat)) (v n : Nat) (ws : List Nat) (r i : Nat) : (part l v n ws r i).length = ws.length := by simp [part]
theorem part_start (l : List (Nat × Nat)) (v n : Nat) (ws : List Nat) : part l v n ws 0 0 = ws := by
  apply List.ext_getElem
  · simp [part]
  · intro t h1 h2; simp [part]
theorem part_set (l : List (Nat × Nat)) (v n : Nat) (ws : List Nat) (r i : Nat) (hi : i < v) : (part l v n ws r i).set (r * v + i) ((part l v n ws r i).getD (r * v + i) 0 ^^^ n) = part l v n ws r (i + 1) := by
  have hv : 0 < v := by omega
  have e1 : (r * v + i) / v = r := by rw [Nat.mul_comm, Nat.mul_add_div hv, Nat.div_eq_of_lt hi]; rfl
  have e2 : (r * v + i) % v = i := by rw [Nat.mul_comm, Nat.mul_add_mod, Nat.mod_eq_of_lt hi]
  apply List.ext_getElem
  · simp [part]
  · intro t h1 h2
    have ht : t < ws.length := by simpa [part] using h2
    rw [List.getElem_set]
    by_cases h : r * v + i = t
    · subst h
      simp [part, List.getD, ht, e1, e2]
    · rw [if_neg h]
      simp only [part, List.getElem_mapIdx]
      by_cases hr : t / v < r
      · rw [if_pos hr, if_pos hr]
      · rw [if_neg hr, if_neg hr]
        by_cases hr2 : t / v = r
        · have hne : t % v ≠ i := fun hc => h (by rw [← hr2, ← hc, Nat.mul_comm]; exact Nat.div_add_mod t v)
          by_cases hlt : t % v < i
          · rw [if_pos ⟨hr2, hlt⟩, if_pos ⟨hr2, by omega⟩]
          · rw [if_neg (fun h => hlt h.2), if_neg (fun h => by omega)]
        · rw [if_neg (fun h => hr2 h.1), if_neg (fun h => hr2 h.1)]
theorem part_row (l : List (Nat × Nat)) (v n : Nat) (ws : List Nat) (r d : Nat) (hv : 0 < v) (hd : IsDeep (val (l.getD r (0, 0)) n) v d) : part l v n ws r d = part l v n ws (r + 1) 0 := by
  apply List.ext_getElem
  · simp [part]
  · intro t h1 h2
    simp only [part, List.getElem_mapIdx]
    have hm : t % v < v := Nat.mod_lt _ hv
    by_cases hr : t / v < r
    · rw [if_pos hr, if_pos (by omega)]
    · rw [if_neg hr]
      by_cases hr2 : t / v = r
      · rw [if_pos (show t / v < r + 1 by omega), hr2]
        unfold tog1
        have := hd.2 (t % v) hm
        by_cases hlt : t % v < d
        · rw [if_pos ⟨rfl, hlt⟩, if_pos (this.1 hlt)]
        · rw [if_neg (fun h => hlt h.2), if_neg (fun h => hlt (this.2 h))]
      · rw [if_neg (fun h => hr2 h.1), if_neg (by omega), if_neg (fun h => by omega)]
theorem part_all (l : List (Nat × Nat)) (v n : Nat) (ws : List Nat) (hw : ws.length = l.length * v) : part l v n ws l.length 0 = tog l v n ws := by
  apply List.ext_getElem
  · simp [part, tog]
  · intro t h1 h2
    have ht : t < ws.length := by simpa [part] using h1
    simp only [part, tog, List.getElem_mapIdx]
    have : t / v < l.length := Nat.div_lt_of_lt_mul (by rw [Nat.mul_comm]; omega)
    rw [if_pos this]
theorem small_part {l : List (Nat × Nat)} {v n : Nat} {ws : List Nat} (hn : n < 18446744073709551616) (h : Small ws) (r i : Nat) : Small (part l v n ws r i) := by
  intro x hx
  unfold part at hx
  obtain ⟨t, ht, rfl⟩ := List.mem_mapIdx.1 hx
  have hw := h _ (List.getElem_mem ht)
  unfold tog1
  split
  · split
    · exact xor_lt _ _ hw hn
    · exact hw
  · split
    · exact xor_lt _ _ hw hn
    · exact hw
theorem small_tog {l : List (Nat × Nat)} {v n : Nat} {ws : List Nat} (hn : n < 18446744073709551616) (h : Small ws) : Small (tog l v n ws) := by
  intro x hx
  unfold tog at hx
  obtain ⟨t, ht, rfl⟩ := List.mem_mapIdx.1 hx
  have hw := h _ (List.getElem_mem ht)
  unfold tog1
  split
  · exact xor_lt _ _ hw hn
  · exact hw
theorem small_togs {l : List (Nat × Nat)} {v : Nat} {ns ws : List Nat} (hn : Small ns) (h : Small ws) : Small (togs l v ns ws) := by
  unfold togs
  induction ns generalizing ws with
  | nil => exact h
  | cons n ns ih => exact ih (fun x hx => hn x (by simp [hx])) (small_tog (hn n (by simp)) h)
theorem small_rep (k : Nat) : Small (List.replicate k 0) := by
  intro x hx
  rw [(List.mem_replicate.1 hx).2]; omega
theorem small_getD {l : List Nat} (h : Small l) (k : Nat) : l.getD k 0 < 18446744073709551616 := by
  rw [List.getD_eq_getElem?_getD]
  cases hk : l[k]? with
  | none => simp
  | some x => exact h x (List.mem_of_getElem? hk)
theorem small_xors {a b : List Nat} (ha : Small a) (hb : Small b) : Small (xors a b) := by
  intro x hx
  unfold xors at hx
  obtain ⟨i, hi⟩ := List.mem_iff_getElem?.1 hx
  rw [List.getElem?_zipWith] at hi
  cases h1 : a[i]? with
  | none => rw [h1] at hi; simp at hi
  | some y => cases h2 : b[i]? with
    | none => rw [h1, h2] at hi; simp at hi
    | some z =>
      rw [h1, h2] at hi
      simp at hi
      subst hi
      exact xor_lt _ _ (ha y (List.mem_of_getElem? h1)) (hb z (List.mem_of_getElem? h2))
/-- Both parts, the first k words. -/
def xorK (a b : List Nat) (k : Nat) : List Nat := a.mapIdx fun t w => if t < k then w ^^^ b.getD t 0 else w
theorem len_xorK (a b : List Nat) (k : Nat) : (xorK a b k).length = a.length := by simp [xorK]
theorem xorK_zero (a b : List Nat) : xorK a b 0 = a := by
  apply List.ext_getElem
  · simp [xorK]
  · intro t h1 h2; simp [xorK]
theorem xorK_at (a b : List Nat) (k : Nat) : (xorK a b k).getD k 0 = a.getD k 0 := by
  by_cases h : k < a.length
  · simp [xorK, List.getD, h]
  · simp [xorK, List.getD, h]
theorem xorK_step (a b : List Nat) (k : Nat) : (xorK a b k).set k (a.getD k 0 ^^^ b.getD k 0) = xorK a b (k + 1) := by
  apply List.ext_getElem
  · simp [xorK]
  · intro t h1 h2
    have ht : t < a.length := by simpa [xorK] using h2
    rw [List.getElem_set]
    by_cases h : k = t
    · subst h; simp [xorK, List.getD, ht]
    · rw [if_neg h]
      simp only [xorK, List.getElem_mapIdx]
      by_cases h3 : t < k
      · rw [if_pos h3, if_pos (by omega)]
      · rw [if_neg h3, if_neg (by omega)]
theorem xorK_all (a b : List Nat) (h : a.length = b.length) : xorK a b a.length = xors a b := by
  apply List.ext_getElem
  · rw [len_xorK, len_xors _ _ h]
  · intro t h1 h2
    have ht : t < a.length := by simpa [xorK] using h1
    have ht2 : t < b.length := by omega
    simp [xorK, xors, ht, ht2, List.getD]
/-- Is it an edge's name? -/
def isE (n : Nat) : Bool := decide (n / 16777216 < n % 16777216)
def nms (l : List Nat) : List Nat := l.filter isE
theorem nms_step (l : List Nat) (k : Nat) (h : k < l.length) : nms (l.take (k + 1)) = nms (l.take k) ++ if isE l[k] then [l[k]] else [] := by
  unfold nms
  rw [List.take_succ_eq_append_getElem h, List.filter_append]
  cases hc : isE l[k] <;> simp [hc]
theorem nms_len (l : List Nat) : (nms l).length ≤ l.length := List.length_filter_le _ _
end Sk
