/- Directories: whatever is added and removed. -/
import Derived.Test.YtcbedngimgkcoaaVertsFull
set_option linter.unusedVariables false
namespace Vt
theorem cnt_set (l : List Sl) (j : Nat) (hj : j < l.length) (s : Sl) : cnt (l.set j s) + (if l[j].1 then 1 else 0) = cnt l + (if s.1 then 1 else 0) := by
  induction l generalizing j with
  | nil => simp at hj
  | cons a l ih =>
    cases j with
    | zero =>
      simp only [List.set_cons_zero, List.getElem_cons_zero, cnt, List.filter_cons]
      split <;> split <;> simp_all
    | succ j =>
      have := ih j (by simpa using hj)
      simp only [List.set_cons_succ, List.getElem_cons_succ, cnt, List.filter_cons] at this ⊢
      split <;> simp_all <;> omega
theorem cnt_le (l : List Sl) : cnt l ≤ l.length := List.length_filter_le _ _
theorem cnt_full {l : List Sl} (h : ff l = none) : cnt l = l.length := by
  unfold cnt
  rw [List.filter_eq_self.2]
  intro x hx
  obtain ⟨i, hi, rfl⟩ := List.getElem_of_mem hx
  exact ff_none' h i hi
theorem cnt_free {l : List Sl} {v : Nat} (h : ff l = some v) : cnt l < l.length := by
  obtain ⟨hv, hu, -⟩ := ff_some h
  have h1 := cnt_set l v hv (true, 0)
  rw [hu] at h1
  have h2 := cnt_le (l.set v (true, 0))
  simp at h1 h2
  omega
/-- What is kept beside a directory: its keys, and where they stand. -/
def KInv (L : List Sl) (P : List (Int × Int)) (s : Nat) : Prop :=
  Ok L ∧ L.length = s ∧ (P.map (·.1)).Nodup ∧ (∀ e ∈ P, ∃ j : Nat, e.2 = (j : Int) ∧ L[j]? = some (true, e.1)) ∧ (∀ k, (fn L k).isSome = true → k ∈ P.map (·.1)) ∧ cnt L = P.length
theorem kinv_new {s : Nat} (h1 : 1 ≤ s) (h2 : s ≤ 60) : KInv (List.replicate s (false, 0)) [] s := by
  have h := fl_ok h1 h2 0 0
  rw [fl_zero] at h
  have hn : ∀ k, fn (List.replicate s (false, 0)) k = none := fun k => fn_none (fun i hi => by simp)
  refine ⟨h, by simp, by simp, by simp, fun k hk => ?_, ?_⟩
  · rw [hn k] at hk; cases hk
  · simp [cnt]
theorem kinv_in {L : List Sl} {P : List (Int × Int)} {s : Nat} (h : KInv L P s) {t : Nat} (ht : t < P.length) : ∃ j : Nat, P[t].2 = (j : Int) ∧ fn L P[t].1 = some j := by
  obtain ⟨j, h1, h2⟩ := h.2.2.2.1 P[t] (List.getElem_mem ht)
  exact ⟨j, h1, dir_fn h.1.2.2 h2⟩
theorem kinv_out {L : List Sl} {P : List (Int × Int)} {s : Nat} (h : KInv L P s) {k : Int} (hk : ∀ t, (ht : t < P.length) → P[t].1 ≠ k) : fn L k = none := by
  cases hf : fn L k with
  | none => rfl
  | some j =>
    have := h.2.2.2.2.1 k (by rw [hf]; rfl)
    obtain ⟨e, he, h2⟩ := List.mem_map.1 this
    obtain ⟨t, ht, rfl⟩ := List.getElem_of_mem he
    exact absurd h2 (hk t ht)
theorem erase_ne {P : List (Int × Int)} (h : (P.map (·.1)).Nodup) {t : Nat} (ht : t < P.length) : ∀ e ∈ P.eraseIdx t, e.1 ≠ P[t].1 := by
  intro e he hh
  obtain ⟨i, hi, h2⟩ := List.mem_eraseIdx_iff_getElem.1 he
  obtain ⟨h3, h4⟩ := h2
  have h5 := List.pairwise_iff_getElem.1 h
  rcases Nat.lt_or_ge i t with hit | hit
  · have := h5 i t (by simpa using hi) (by simpa using ht) hit
    simp [h4, hh] at this
  · have := h5 t i (by simpa using ht) (by simpa using hi) (by omega)
    simp [h4, hh] at this
theorem kinv_rem {L : List Sl} {P : List (Int × Int)} {s : Nat} (h : KInv L P s) {t : Nat} (ht : t < P.length) {j : Nat} (hj : fn L P[t].1 = some j) : KInv (L.set j (false, 0)) (P.eraseIdx t) s := by
  obtain ⟨h1, h2, h3, h4, h5, h6⟩ := h
  obtain ⟨hl, hlj⟩ := at_fn hj
  have ho := ok_rem h1 hl
  refine ⟨ho, by simpa using h2, ?_, ?_, ?_, ?_⟩
  · exact h3.sublist ((List.eraseIdx_sublist P t).map _)
  · intro e he
    obtain ⟨j', e1, e2⟩ := h4 e (List.mem_of_mem_eraseIdx he)
    refine ⟨j', e1, (at_set hl _ _ _).2 (.inr ⟨fun hh => ?_, e2⟩)⟩
    subst hh
    rw [List.getElem?_eq_getElem hl, hlj] at e2
    have := erase_ne h3 ht e he
    simp at e2
    exact this e2.symm
  · intro k hk
    cases hf : fn (L.set j (false, 0)) k with
    | none => rw [hf] at hk; cases hk
    | some i =>
      have hi := fn_some hf
      rcases (at_set hl _ _ _).1 hi with ⟨_, hh⟩ | ⟨hne, hi⟩
      · cases hh
      · have hm := h5 k (by rw [dir_fn h1.2.2 hi]; rfl)
        obtain ⟨e, he, rfl⟩ := List.mem_map.1 hm
        obtain ⟨q, hq, rfl⟩ := List.getElem_of_mem he
        refine List.mem_map.2 ⟨P[q], ?_, rfl⟩
        refine List.mem_eraseIdx_iff_getElem.2 ⟨q, hq, ?_, rfl⟩
        intro hqt
        subst hqt
        rw [dir_fn h1.2.2 hi] at hj
        simp at hj
        omega
  · have := cnt_set L j hl (false, 0)
    rw [hlj] at this
    simp at this
    rw [List.length_eraseIdx_of_lt ht]
    omega
theorem kinv_add {L : List Sl} {P : List (Int × Int)} {s : Nat} (h : KInv L P s) {k : Int} (hk : fn L k = none) {v : Nat} (hv : ff L = some v) : KInv (L.set v (true, k)) (P ++ [(k, (v : Int))]) s := by
  obtain ⟨h1, h2, h3, h4, h5, h6⟩ := h
  obtain ⟨hl, hu, -⟩ := ff_some hv
  have hno : ∀ e ∈ P, e.1 ≠ k := fun e he hh => by
    obtain ⟨j', _, e2⟩ := h4 e he
    rw [hh] at e2
    exact fn_none' hk j' e2
  refine ⟨ok_add h1 hk hl, by simpa using h2, ?_, ?_, ?_, ?_⟩
  · rw [List.map_append, List.nodup_append]
    refine ⟨h3, by simp, ?_⟩
    intro a ha b hb hab
    simp at hb
    obtain ⟨e, he, rfl⟩ := List.mem_map.1 ha
    exact hno e he (hab.trans hb)
  · intro e he
    rcases List.mem_append.1 he with he | he
    · obtain ⟨j', e1, e2⟩ := h4 e he
      refine ⟨j', e1, (at_set hl _ _ _).2 (.inr ⟨fun hh => ?_, e2⟩)⟩
      subst hh
      rw [List.getElem?_eq_getElem hl] at e2
      have := Option.some.inj e2
      rw [this] at hu
      cases hu
    · simp at he
      subst he
      exact ⟨v, rfl, (at_set hl _ _ _).2 (.inl ⟨rfl, rfl⟩)⟩
  · intro k' hk'
    cases hf : fn (L.set v (true, k)) k' with
    | none => rw [hf] at hk'; cases hk'
    | some i =>
      rcases (at_set hl _ _ _).1 (fn_some hf) with ⟨_, hh⟩ | ⟨hne, hi⟩
      · cases hh; simp
      · rw [List.map_append]
        exact List.mem_append_left _ (h5 k' (by rw [dir_fn h1.2.2 hi]; rfl))
  · have := cnt_set L v hl (true, k)
    rw [hu] at this
    simp at this
    rw [List.length_append]
    simp
    omega
theorem map_erase {f : Int × Int → Int} (P : List (Int × Int)) (t : Nat) : (P.eraseIdx t).map f = (P.map f).take t ++ (P.map f).drop (t + 1) := by
  rw [List.eraseIdx_eq_take_drop_succ, List.map_append, List.map_take, List.map_drop]
end Vt
