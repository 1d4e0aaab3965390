set_option linter.unusedVariables false
namespace Dc

/-- Pairs by rising keys. -/
def Srt (l : List (Int × Int)) : Prop := l.Pairwise fun a b => a.1 < b.1
def less (l : List (Int × Int)) (k : Int) : Nat := (l.filter fun e => decide (e.1 < k)).length
def get (l : List (Int × Int)) (k : Int) : Option Int := (l.find? fun e => e.1 == k).map (·.2)
def put (l : List (Int × Int)) (k n : Int) : List (Int × Int) := (l.filter fun e => decide (e.1 < k)) ++ (k, n) :: (l.filter fun e => decide (k < e.1))
def del (l : List (Int × Int)) (k : Int) : List (Int × Int) := l.filter fun e => e.1 != k

theorem less_le (l : List (Int × Int)) (k : Int) : less l k ≤ l.length := List.length_filter_le _ _
theorem srt_cons {e : Int × Int} {l : List (Int × Int)} (h : Srt (e :: l)) : (∀ x ∈ l, e.1 < x.1) ∧ Srt l := List.pairwise_cons.1 h
theorem filter_none {l : List (Int × Int)} {p : Int × Int → Bool} (h : ∀ x ∈ l, p x = false) : l.filter p = [] := by
  rw [List.filter_eq_nil_iff]; intro a ha; simp [h a ha]
theorem filter_all {l : List (Int × Int)} {p : Int × Int → Bool} (h : ∀ x ∈ l, p x = true) : l.filter p = l := List.filter_eq_self.2 h
theorem take_less (l : List (Int × Int)) (k : Int) (h : Srt l) : l.take (less l k) = l.filter (fun e => decide (e.1 < k)) ∧ l.drop (less l k) = l.filter (fun e => decide (k ≤ e.1)) := by
  induction l with
  | nil => simp [less]
  | cons e l ih =>
    obtain ⟨h1, h2⟩ := srt_cons h
    by_cases c : e.1 < k
    · have e1 : less (e :: l) k = less l k + 1 := by simp [less, c]
      have e2 : ¬ k ≤ e.1 := by omega
      rw [e1, List.take_succ_cons, List.drop_succ_cons, (ih h2).1, (ih h2).2]
      simp [c, e2]
    · have e1 : less (e :: l) k = 0 := by
        unfold less
        rw [filter_none]; rfl
        intro x hx
        rcases List.mem_cons.1 hx with rfl | hx
        · simp [c]
        · have := h1 x hx; simp; omega
      have e2 : (e :: l).filter (fun e => decide (e.1 < k)) = [] := List.eq_nil_of_length_eq_zero e1
      rw [e1, e2, filter_all]
      · simp
      · intro x hx
        rcases List.mem_cons.1 hx with rfl | hx
        · simp; omega
        · have := h1 x hx; simp; omega
/-- The key at a place is no less than k just from the place on that less tells. -/
theorem less_iff {l : List (Int × Int)} (h : Srt l) (k : Int) (i : Nat) (hi : i < l.length) : k ≤ l[i].1 ↔ less l k ≤ i := by
  have ht := take_less l k h
  constructor
  · intro hk
    rcases Nat.lt_or_ge i (less l k) with h1 | h1
    · have h2 : l[i] ∈ l.take (less l k) := by
        rw [List.mem_take_iff_getElem]; exact ⟨i, by omega, rfl⟩
      rw [ht.1] at h2
      have := (List.mem_filter.1 h2).2
      simp at this; omega
    · exact h1
  · intro hk
    have h2 : l[i] ∈ l.drop (less l k) := by
      rw [List.mem_drop_iff_getElem]; exact ⟨i - less l k, by omega, by congr 1; omega⟩
    rw [ht.2] at h2
    have := (List.mem_filter.1 h2).2
    simpa using this
theorem get_none {l : List (Int × Int)} {k : Int} : get l k = none ↔ ∀ e ∈ l, e.1 ≠ k := by
  unfold get; simp
theorem get_some {l : List (Int × Int)} (h : Srt l) {k n : Int} : get l k = some n ↔ (k, n) ∈ l := by
  induction l with
  | nil => simp [get]
  | cons e l ih =>
    obtain ⟨h1, h2⟩ := srt_cons h
    by_cases c : e.1 = k
    · have e1 : get (e :: l) k = some e.2 := by simp [get, c]
      rw [e1]
      constructor
      · intro he; injection he with he; rw [← he, ← c]; exact List.mem_cons_self ..
      · intro he
        rcases List.mem_cons.1 he with he | he
        · rw [← he]
        · have := h1 _ he; simp at this; omega
    · have e1 : get (e :: l) k = get l k := by simp [get, c]
      rw [e1, ih h2]
      constructor
      · intro he; exact List.mem_cons_of_mem _ he
      · intro he
        rcases List.mem_cons.1 he with he | he
        · rw [← he] at c; exact absurd rfl c
        · exact he
theorem srt_filter {l : List (Int × Int)} (h : Srt l) (p : Int × Int → Bool) : Srt (l.filter p) := List.Pairwise.filter _ h
theorem srt_put {l : List (Int × Int)} (h : Srt l) (k n : Int) : Srt (put l k n) := by
  unfold put Srt
  rw [List.pairwise_append]
  refine ⟨srt_filter h _, List.pairwise_cons.2 ⟨fun x hx => ?_, srt_filter h _⟩, fun a ha b hb => ?_⟩
  · simpa using (List.mem_filter.1 hx).2
  · have h1 := (List.mem_filter.1 ha).2
    rcases List.mem_cons.1 hb with rfl | hb
    · simpa using h1
    · have h2 := (List.mem_filter.1 hb).2
      simp at h1 h2; omega
theorem srt_del {l : List (Int × Int)} (h : Srt l) (k : Int) : Srt (del l k) := srt_filter h _
theorem mem_put {l : List (Int × Int)} {k n : Int} {e : Int × Int} : e ∈ put l k n ↔ e = (k, n) ∨ (e ∈ l ∧ e.1 ≠ k) := by
  unfold put
  rw [List.mem_append, List.mem_cons, List.mem_filter, List.mem_filter]
  simp only [decide_eq_true_eq]
  constructor
  · rintro (⟨h1, h2⟩ | h | ⟨h1, h2⟩)
    · exact .inr ⟨h1, by omega⟩
    · exact .inl h
    · exact .inr ⟨h1, by omega⟩
  · rintro (h | ⟨h1, h2⟩)
    · exact .inr (.inl h)
    · rcases Int.lt_trichotomy e.1 k with h3 | h3 | h3
      · exact .inl ⟨h1, h3⟩
      · exact absurd h3 h2
      · exact .inr (.inr ⟨h1, h3⟩)
theorem mem_del {l : List (Int × Int)} {k : Int} {e : Int × Int} : e ∈ del l k ↔ e ∈ l ∧ e.1 ≠ k := by
  unfold del; rw [List.mem_filter]; simp
/-- Sorted lists with the same pairs are the same. -/
theorem srt_ext {l m : List (Int × Int)} (h : Srt l) (h' : Srt m) (he : ∀ e, e ∈ l ↔ e ∈ m) : l = m := by
  induction l generalizing m with
  | nil =>
    cases m with
    | nil => rfl
    | cons b m => exact absurd ((he b).2 (List.mem_cons_self ..)) (by simp)
  | cons a l ih =>
    cases m with
    | nil => exact absurd ((he a).1 (List.mem_cons_self ..)) (by simp)
    | cons b m =>
      obtain ⟨h1, h2⟩ := srt_cons h
      obtain ⟨h3, h4⟩ := srt_cons h'
      have hab : a = b := by
        rcases List.mem_cons.1 ((he a).1 (List.mem_cons_self ..)) with h5 | h5
        · exact h5
        · rcases List.mem_cons.1 ((he b).2 (List.mem_cons_self ..)) with h6 | h6
          · exact h6.symm
          · have := h3 a h5; have := h1 b h6; omega
      subst hab
      congr 1
      refine ih h2 h4 fun e => ⟨fun hm => ?_, fun hm => ?_⟩
      · rcases List.mem_cons.1 ((he e).1 (List.mem_cons_of_mem _ hm)) with h5 | h5
        · have := h1 e hm; rw [h5] at this; omega
        · exact h5
      · rcases List.mem_cons.1 ((he e).2 (List.mem_cons_of_mem _ hm)) with h5 | h5
        · have := h3 e hm; rw [h5] at this; omega
        · exact h5
theorem get_put_same {l : List (Int × Int)} (h : Srt l) (k n : Int) : get (put l k n) k = some n := (get_some (srt_put h k n)).2 (mem_put.2 (.inl rfl))
theorem get_ext {l m : List (Int × Int)} (h : Srt l) (h' : Srt m) {k : Int} (he : ∀ n, (k, n) ∈ l ↔ (k, n) ∈ m) : get l k = get m k := by
  cases hm : get m k with
  | some n => rw [get_some h, he, ← get_some h', hm]
  | none =>
    cases hl : get l k with
    | none => rfl
    | some n => rw [get_some h, he, ← get_some h'] at hl; rw [hl] at hm; cases hm
theorem get_put_other {l : List (Int × Int)} (h : Srt l) (k n j : Int) (hj : j ≠ k) : get (put l k n) j = get l j :=
  get_ext (srt_put h k n) h fun m => by rw [mem_put]; simp [hj]
theorem get_del_same (l : List (Int × Int)) (k : Int) : get (del l k) k = none := get_none.2 fun e he => (mem_del.1 he).2
theorem get_del_other {l : List (Int × Int)} (h : Srt l) (k j : Int) (hj : j ≠ k) : get (del l k) j = get l j :=
  get_ext (srt_del h k) h fun m => by rw [mem_del]; simp [hj]
theorem del_put {l : List (Int × Int)} (h : Srt l) (k n : Int) : del (put l k n) k = del l k :=
  srt_ext (srt_del (srt_put h k n) k) (srt_del h k) fun e => by
    rw [mem_del, mem_put, mem_del]
    constructor
    · rintro ⟨h1 | h1, h2⟩
      · rw [h1] at h2; exact absurd rfl h2
      · exact h1
    · intro h1; exact ⟨.inr h1, h1.2⟩
theorem del_none {l : List (Int × Int)} {k : Int} (h : get l k = none) : del l k = l :=
  filter_all fun x hx => by have := get_none.1 h x hx; simp [this]
theorem put_put {l : List (Int × Int)} (h : Srt l) (k n m : Int) : put (put l k n) k m = put l k m :=
  srt_ext (srt_put (srt_put h k n) k m) (srt_put h k m) fun e => by
    rw [mem_put, mem_put, mem_put]
    constructor
    · rintro (h1 | ⟨h1 | h1, h2⟩)
      · exact .inl h1
      · rw [h1] at h2; exact absurd rfl h2
      · exact .inr h1
    · rintro (h1 | h1)
      · exact .inl h1
      · exact .inr ⟨.inr h1, h1.2⟩
/-! ## What the code does -/
/-- The pair at the place of key k. -/
theorem at_less {l : List (Int × Int)} (h : Srt l) (k : Int) : get l k = ((l[less l k]?).bind fun e => if e.1 = k then some e.2 else none) := by
  cases hx : l[less l k]? with
  | none =>
    rw [List.getElem?_eq_none_iff] at hx
    show _ = none
    rw [get_none]
    intro e he hk
    obtain ⟨i, hi, rfl⟩ := List.getElem_of_mem he
    have := (less_iff h k i hi).1 (by omega)
    omega
  | some e =>
    obtain ⟨hi, he⟩ := List.getElem?_eq_some_iff.1 hx
    show _ = if e.1 = k then some e.2 else none
    split
    · rename_i hk
      rw [get_some h, ← hk]
      have : l[less l k] ∈ l := List.getElem_mem hi
      rw [he] at this; exact this
    · rename_i hk
      rw [get_none]
      intro x hxm hk2
      obtain ⟨i, hi2, rfl⟩ := List.getElem_of_mem hxm
      have h1 := (less_iff h k i hi2).1 (by omega)
      rcases Nat.lt_or_ge (less l k) i with h2 | h2
      · have h3 := (List.pairwise_iff_getElem.1 h) _ _ hi hi2 h2
        have h4 := (less_iff h k _ hi).2 (Nat.le_refl _)
        rw [he] at h3 h4; omega
      · have : i = less l k := by omega
        subst this
        rw [he] at hk2; exact hk hk2
theorem drop_put {l : List (Int × Int)} (h : Srt l) (k : Int) : (if get l k = none then l.drop (less l k) else l.drop (less l k + 1)) = l.filter fun e => decide (k < e.1) := by
  have ht := (take_less l k h).2
  split
  · rename_i hn
    rw [ht]
    refine List.filter_congr fun x hx => ?_
    have := get_none.1 hn x hx
    simp; omega
  · rename_i hn
    rw [at_less h] at hn
    cases hx : l[less l k]? with
    | none => rw [hx] at hn; exact absurd rfl hn
    | some e =>
      rw [hx] at hn
      obtain ⟨hi, he⟩ := List.getElem?_eq_some_iff.1 hx
      have hk : e.1 = k := by
        apply Classical.byContradiction
        intro hk
        exact hn (by show (if e.1 = k then some e.2 else none) = none; rw [if_neg hk])
      have h1 := List.drop_eq_getElem_cons hi
      rw [he, ht] at h1
      have h2 : (l.filter fun x => decide (k ≤ x.1)).filter (fun x => decide (k < x.1)) = l.filter fun x => decide (k < x.1) := by
        rw [List.filter_filter]
        refine List.filter_congr fun x hx => ?_
        by_cases c : k < x.1
        · have : k ≤ x.1 := by omega
          simp [c, this]
        · simp [c]
      rw [h1] at h2
      have h3 : Srt (e :: l.drop (less l k + 1)) := by
        rw [← h1]; exact srt_filter h _
      have h4 := (srt_cons h3).1
      rw [List.filter_cons_of_neg (by simp; omega), filter_all] at h2
      · exact h2
      · intro x hx
        have := h4 x hx
        simp; omega
/-- What Put makes. -/
theorem put_code {l : List (Int × Int)} (h : Srt l) (k n : Int) : l.take (less l k) ++ (k, n) :: (if get l k = none then l.drop (less l k) else l.drop (less l k + 1)) = put l k n := by
  rw [drop_put h, (take_less l k h).1]; rfl
/-- What Delete makes. -/
theorem del_code {l : List (Int × Int)} (h : Srt l) (k : Int) (hk : get l k ≠ none) : l.take (less l k) ++ l.drop (less l k + 1) = del l k := by
  have h1 := drop_put h k
  rw [if_neg hk] at h1
  rw [h1, (take_less l k h).1]
  refine srt_ext ?_ (srt_del h k) fun e => ?_
  · unfold Srt; rw [List.pairwise_append]
    refine ⟨srt_filter h _, srt_filter h _, fun a ha b hb => ?_⟩
    have h1 := (List.mem_filter.1 ha).2
    have h2 := (List.mem_filter.1 hb).2
    simp at h1 h2; omega
  · rw [mem_del, List.mem_append, List.mem_filter, List.mem_filter]
    simp only [decide_eq_true_eq]
    constructor
    · rintro (⟨h1, h2⟩ | ⟨h1, h2⟩)
      · exact ⟨h1, by omega⟩
      · exact ⟨h1, by omega⟩
    · rintro ⟨h1, h2⟩
      rcases Int.lt_trichotomy e.1 k with h3 | h3 | h3
      · exact .inl ⟨h1, h3⟩
      · exact absurd h3 h2
      · exact .inr ⟨h1, h3⟩
theorem less_mono (l : List (Int × Int)) (a b : Int) (h : a ≤ b) : less l a ≤ less l b := by
  unfold less
  induction l with
  | nil => simp
  | cons e l ih =>
    by_cases c : e.1 < a
    · have : e.1 < b := by omega
      simp [c, this]; exact ih
    · by_cases c2 : e.1 < b
      · simp [c, c2]; omega
      · simp [c, c2]; exact ih
theorem less_zero {l : List (Int × Int)} (h : ∀ e ∈ l, 0 ≤ e.1) : less l 0 = 0 := by
  unfold less
  rw [filter_none]; rfl
  intro x hx; have := h x hx; simp; omega
theorem less_at {l : List (Int × Int)} (h : Srt l) (i : Nat) (hi : i < l.length) : less l l[i].1 = i := by
  have h1 := (less_iff h l[i].1 i hi).1 (Int.le_refl _)
  rcases Nat.lt_or_ge (less l l[i].1) i with h2 | h2
  · have h3 := (less_iff h l[i].1 (less l l[i].1) (by omega)).2 (Nat.le_refl _)
    have h4 := (List.pairwise_iff_getElem.1 h) _ _ (by omega) hi h2
    omega
  · omega
theorem len_put_new {l : List (Int × Int)} (h : Srt l) (k n : Int) (hk : get l k = none) : (put l k n).length = l.length + 1 := by
  rw [← put_code h, if_pos hk]
  simp
  have := less_le l k; omega
theorem len_put_le {l : List (Int × Int)} (h : Srt l) (k n : Int) : (put l k n).length ≤ l.length + 1 := by
  rw [← put_code h]
  have := less_le l k
  split <;> simp <;> omega
theorem len_del_le (l : List (Int × Int)) (k : Int) : (del l k).length ≤ l.length := List.length_filter_le _ _
end Dc
