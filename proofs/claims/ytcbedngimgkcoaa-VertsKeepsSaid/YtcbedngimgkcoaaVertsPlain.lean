/- Directories: slots as (used, key); the vertices by their keys. -/
import Derived.Test.YtcbedngimgkcoaaDictPlain
set_option linter.unusedVariables false
namespace Vt
abbrev Sl := Bool × Int
/-- One slot more, behind i slots whose vertices by keys are d. -/
def kstep (o : Option (List (Int × Int))) (s : Sl × Nat) : Option (List (Int × Int)) :=
  o.bind fun d => if s.1.1 then (if (Dc.get d s.1.2).isSome then none else some (Dc.put d s.1.2 (s.2 : Int))) else if s.1.2 = 0 then some d else none
def keyed (l : List Sl) : Option (List (Int × Int)) := l.zipIdx.foldl kstep (some [])
theorem keyed_snoc (l : List Sl) (s : Sl) : keyed (l ++ [s]) = kstep (keyed l) (s, l.length) := by
  unfold keyed
  rw [List.zipIdx_append, List.foldl_append]
  simp
theorem keyed_take (l : List Sl) (j : Nat) (h : j < l.length) : keyed (l.take (j + 1)) = kstep (keyed (l.take j)) (l[j], j) := by
  rw [List.take_succ_eq_append_getElem h, keyed_snoc, List.length_take, Nat.min_eq_left (by omega)]
/-- Once it is refused it stays refused. -/
theorem fold_none (l : List (Sl × Nat)) : l.foldl kstep none = none := by
  induction l with
  | nil => rfl
  | cons a l ih => simpa [kstep] using ih
theorem keyed_none (l : List Sl) (j : Nat) (h : keyed (l.take j) = none) : keyed l = none := by
  have e : keyed l = ((l.drop j).zipIdx ((l.take j).length)).foldl kstep (keyed (l.take j)) := by
    have e2 : keyed (l.take j ++ l.drop j) = ((l.drop j).zipIdx ((l.take j).length)).foldl kstep (keyed (l.take j)) := by
      unfold keyed
      rw [List.zipIdx_append, List.foldl_append]
      simp only [Nat.zero_add]
    rw [List.take_append_drop] at e2
    exact e2
  rw [e, h, fold_none]
/-- What the vertices by keys are. -/
def Of (l : List Sl) (d : List (Int × Int)) : Prop := Dc.Srt d ∧ d.length ≤ l.length ∧ ∀ k n, (k, n) ∈ d ↔ ∃ i : Nat, n = (i : Int) ∧ l[i]? = some (true, k)
def Dir (l : List Sl) : Prop := (∀ s ∈ l, s.1 = false → s.2 = 0) ∧ ∀ (i j : Nat) (k : Int), l[i]? = some (true, k) → l[j]? = some (true, k) → i = j
theorem at_snoc (l : List Sl) (s : Sl) (i : Nat) (x : Sl) : (l ++ [s])[i]? = some x ↔ l[i]? = some x ∨ (i = l.length ∧ s = x) := by
  rw [List.getElem?_append]
  split
  · rename_i h
    constructor
    · exact .inl
    · rintro (h' | ⟨h', _⟩)
      · exact h'
      · omega
  · rename_i h
    have h1 : l[i]? = none := List.getElem?_eq_none (by omega)
    rw [h1]
    constructor
    · intro h'
      right
      have : i - l.length = 0 := by
        cases e : i - l.length with
        | zero => rfl
        | succ m => rw [e] at h'; simp at h'
      rw [this] at h'
      exact ⟨by omega, by simpa using h'⟩
    · rintro (h' | ⟨rfl, rfl⟩)
      · cases h'
      · simp
theorem of_nil : Of [] [] := ⟨List.Pairwise.nil, Nat.le_refl _, fun k n => by simp⟩
theorem rev_ind {α : Type} {p : List α → Prop} (h0 : p []) (h1 : ∀ l a, p l → p (l ++ [a])) (l : List α) : p l := by
  have h : ∀ m : List α, p m.reverse := by
    intro m
    induction m with
    | nil => exact h0
    | cons a m ih => rw [List.reverse_cons]; exact h1 _ _ ih
  have := h l.reverse
  rwa [List.reverse_reverse] at this
theorem keyed_cases : ∀ (l : List Sl), (∃ d, keyed l = some d ∧ Of l d ∧ Dir l) ∨ (keyed l = none ∧ ¬ Dir l) := by
  intro l
  refine rev_ind (p := fun l => (∃ d, keyed l = some d ∧ Of l d ∧ Dir l) ∨ (keyed l = none ∧ ¬ Dir l)) ?_ ?_ l
  · exact .inl ⟨[], rfl, of_nil, ⟨by simp, by simp⟩⟩
  · intro l s ih
    rw [keyed_snoc]
    rcases ih with ⟨d, h1, ⟨h2, h3, h4⟩, h5, h6⟩ | ⟨h1, h2⟩
    · rw [h1]
      obtain ⟨u, k⟩ := s
      cases u with
      | false =>
        by_cases hk : k = 0
        · subst hk
          left
          refine ⟨d, rfl, ⟨h2, by simp; omega, fun k n => ?_⟩, ?_, ?_⟩
          · rw [h4]
            constructor
            · rintro ⟨i, e, h⟩; exact ⟨i, e, (at_snoc ..).2 (.inl h)⟩
            · rintro ⟨i, e, h⟩
              rcases (at_snoc ..).1 h with h | ⟨_, h⟩
              · exact ⟨i, e, h⟩
              · simp at h
          · intro s hs hu
            rcases List.mem_append.1 hs with hs | hs
            · exact h5 s hs hu
            · simp at hs; subst hs; rfl
          · intro i j k hi hj
            rcases (at_snoc ..).1 hi with hi | ⟨_, hi⟩
            · rcases (at_snoc ..).1 hj with hj | ⟨_, hj⟩
              · exact h6 i j k hi hj
              · simp at hj
            · simp at hi
        · right
          refine ⟨by simp [kstep, hk], fun h => hk (h.1 (false, k) (by simp) rfl)⟩
      | true =>
        cases hg : Dc.get d k with
        | none =>
          left
          have hn := Dc.get_none.1 hg
          have hno : ∀ i : Nat, l[i]? ≠ some (true, k) := fun i h => hn (k, (i : Int)) ((h4 k i).2 ⟨i, rfl, h⟩) rfl
          refine ⟨Dc.put d k (l.length : Int), by simp [kstep, hg], ⟨Dc.srt_put h2 _ _, ?_, fun k' n => ?_⟩, ?_, ?_⟩
          · rw [Dc.len_put_new h2 _ _ hg]; simp; omega
          · rw [Dc.mem_put]
            constructor
            · rintro (h | ⟨h, h'⟩)
              · simp at h
                exact ⟨l.length, h.2, (at_snoc ..).2 (.inr ⟨rfl, by rw [h.1]⟩)⟩
              · obtain ⟨i, e, h⟩ := (h4 _ _).1 h
                exact ⟨i, e, (at_snoc ..).2 (.inl h)⟩
            · rintro ⟨i, e, h⟩
              rcases (at_snoc ..).1 h with hh | ⟨h', h⟩
              · right
                refine ⟨(h4 _ _).2 ⟨i, e, hh⟩, fun h' => ?_⟩
                simp at h'
                subst h'
                exact hno i hh
              · left
                simp at h
                rw [e, h', h]
          · intro s hs hu
            rcases List.mem_append.1 hs with hs | hs
            · exact h5 s hs hu
            · simp at hs; subst hs; cases hu
          · intro i j k' hi hj
            rcases (at_snoc ..).1 hi with hi | ⟨hi', hi⟩
            · rcases (at_snoc ..).1 hj with hj | ⟨hj', hj⟩
              · exact h6 i j k' hi hj
              · simp at hj; subst hj; exact absurd hi (hno i)
            · rcases (at_snoc ..).1 hj with hj | ⟨hj', hj⟩
              · simp at hi; subst hi; exact absurd hj (hno j)
              · omega
        | some n =>
          right
          refine ⟨by simp [kstep, hg], fun h => ?_⟩
          obtain ⟨i, e, hi⟩ := (h4 k n).1 ((Dc.get_some h2).1 hg)
          have := h.2 i l.length k ((at_snoc ..).2 (.inl hi)) ((at_snoc ..).2 (.inr ⟨rfl, rfl⟩))
          have hl : i < l.length := (List.getElem?_eq_some_iff.1 hi).1
          omega
    · right
      refine ⟨by rw [h1]; rfl, fun h => h2 ⟨fun s hs => h.1 s (List.mem_append_left _ hs), fun i j k hi hj => h.2 i j k ((at_snoc ..).2 (.inl hi)) ((at_snoc ..).2 (.inl hj))⟩⟩
end Vt
