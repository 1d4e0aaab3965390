import Derived.Test.YtkkhghipbnpiaaaDictPlain
set_option linter.unusedVariables false
namespace Dc

/-- What the document's Put has behind the pairs l: whether the pair is in, and the list. -/
def rdone (l : List (Int × Int)) (k : Int) : Bool := l.any fun e => decide (k ≤ e.1)
def rout (l : List (Int × Int)) (k n : Int) : List (Int × Int) := (l.filter fun e => decide (e.1 < k)) ++ (if rdone l k then (k, n) :: (l.filter fun e => decide (k < e.1)) else [])
theorem rdone_snoc (l : List (Int × Int)) (x : Int × Int) (k : Int) : rdone (l ++ [x]) k = (rdone l k || decide (k ≤ x.1)) := by simp [rdone]
theorem rdone_false {l : List (Int × Int)} {k : Int} (h : rdone l k = false) : ∀ e ∈ l, e.1 < k := by
  intro e he
  unfold rdone at h
  rw [List.any_eq_false] at h
  have := h e he
  simp at this; exact this
theorem rput_new {l : List (Int × Int)} {x : Int × Int} {k : Int} (n : Int) (h : rdone l k = false) (hx : k ≤ x.1) :
    rdone (l ++ [x]) k = true ∧ (x.1 = k → rout (l ++ [x]) k n = rout l k n ++ [(k, n)]) ∧ (x.1 ≠ k → rout (l ++ [x]) k n = rout l k n ++ [(k, n)] ++ [x]) := by
  have hd : rdone (l ++ [x]) k = true := by rw [rdone_snoc]; simp [hx]
  have hf : l.filter (fun e => decide (k < e.1)) = [] := by
    rw [List.filter_eq_nil_iff]; intro e he; have := rdone_false h e he; simp; omega
  have hxk : ¬ x.1 < k := by omega
  refine ⟨hd, fun he => ?_, fun he => ?_⟩
  · unfold rout
    rw [hd, h]
    simp [List.filter_append, hf, he]
  · have hlt : k < x.1 := by omega
    unfold rout
    rw [hd, h]
    simp [List.filter_append, hf, hxk, hlt]
theorem rput_less {l : List (Int × Int)} {x : Int × Int} {k : Int} (n : Int) (h : rdone l k = false) (hx : x.1 < k) :
    rdone (l ++ [x]) k = false ∧ rout (l ++ [x]) k n = rout l k n ++ [x] := by
  have hnk : ¬ k ≤ x.1 := by omega
  have hd : rdone (l ++ [x]) k = false := by rw [rdone_snoc, h]; simp [hx]
  refine ⟨hd, ?_⟩
  unfold rout
  rw [hd, h]
  simp [List.filter_append, hx]
theorem rput_done {l : List (Int × Int)} {x : Int × Int} {k : Int} (n : Int) (h : rdone l k = true) (hs : Srt (l ++ [x])) :
    rdone (l ++ [x]) k = true ∧ k < x.1 ∧ rout (l ++ [x]) k n = rout l k n ++ [x] := by
  have hd : rdone (l ++ [x]) k = true := by rw [rdone_snoc, h]; rfl
  have hlt : k < x.1 := by
    unfold rdone at h
    rw [List.any_eq_true] at h
    obtain ⟨e, he, hk⟩ := h
    have := (List.pairwise_append.1 hs).2.2 e he x (by simp)
    simp at hk; omega
  have hnk : ¬ x.1 < k := by omega
  refine ⟨hd, hlt, ?_⟩
  unfold rout
  rw [hd, h]
  simp [List.filter_append, hlt, hnk]
theorem rput_end (l : List (Int × Int)) (k n : Int) : (rdone l k = true → rout l k n = put l k n) ∧ (rdone l k = false → rout l k n ++ [(k, n)] = put l k n) := by
  refine ⟨fun h => ?_, fun h => ?_⟩
  · unfold rout put; rw [h]; rfl
  · have hf : l.filter (fun e => decide (k < e.1)) = [] := by
      rw [List.filter_eq_nil_iff]; intro e he; have := rdone_false h e he; simp; omega
    unfold rout put; rw [h, hf]; simp
theorem del_snoc (l : List (Int × Int)) (x : Int × Int) (k : Int) : (x.1 = k → del (l ++ [x]) k = del l k) ∧ (x.1 ≠ k → del (l ++ [x]) k = del l k ++ [x]) := by
  unfold del
  refine ⟨fun h => ?_, fun h => ?_⟩
  · simp [List.filter_append, h]
  · simp [List.filter_append, h]
theorem less_snoc (l : List (Int × Int)) (x : Int × Int) (k : Int) : (x.1 < k → less (l ++ [x]) k = less l k + 1) ∧ (¬ x.1 < k → less (l ++ [x]) k = less l k) := by
  unfold less
  refine ⟨fun h => ?_, fun h => ?_⟩
  · simp [List.filter_append, h]
  · simp [List.filter_append, h]
theorem get_here {l : List (Int × Int)} {k : Int} {m : Nat} (h : m < l.length) (hn : ∀ j, (hj : j < m) → (l[j]'(by omega)).1 ≠ k) (hk : (l[m]).1 = k) : get l k = some (l[m]).2 := by
  unfold get
  have : l.find? (fun e => e.1 == k) = some l[m] := by
    rw [List.find?_eq_some_iff_getElem]
    refine ⟨by simp [hk], m, h, rfl, fun j hj => ?_⟩
    have := hn j hj
    simp [this]
  rw [this]; rfl
theorem get_nowhere {l : List (Int × Int)} {k : Int} (hn : ∀ j, (hj : j < l.length) → (l[j]).1 ≠ k) : get l k = none := by
  rw [get_none]
  intro e he
  obtain ⟨j, hj, rfl⟩ := List.getElem_of_mem he
  exact hn j hj
end Dc
