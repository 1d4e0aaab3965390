import Derived.Test.YtkkhghipbnpiaaaDictPlain
set_option linter.unusedVariables false
namespace Dc

/-- The keys put in the order in which js names them, each with its place. -/
def putAll (ks : Nat → Int) (js : List Nat) : List (Int × Int) := js.foldl (fun l j => put l (ks j) (j : Int)) []
theorem putAll_snoc (ks : Nat → Int) (js : List Nat) (j : Nat) : putAll ks (js ++ [j]) = put (putAll ks js) (ks j) (j : Int) := by
  unfold putAll; rw [List.foldl_append]; rfl
theorem srt_putAll (ks : Nat → Int) (js : List Nat) : Srt (putAll ks js) := by
  unfold putAll
  have key : ∀ (js : List Nat) (l : List (Int × Int)), Srt l → Srt (js.foldl (fun l j => put l (ks j) (j : Int)) l) := by
    intro js
    induction js with
    | nil => intro l h; exact h
    | cons j js ih => intro l h; exact ih _ (srt_put h _ _)
  exact key js [] List.Pairwise.nil
theorem mem_putAll_sub (ks : Nat → Int) (js : List Nat) (e : Int × Int) (h : e ∈ putAll ks js) : ∃ j ∈ js, e = (ks j, (j : Int)) := by
  have key : ∀ (js : List Nat) (l : List (Int × Int)), e ∈ js.foldl (fun l j => put l (ks j) (j : Int)) l → e ∈ l ∨ ∃ j ∈ js, e = (ks j, (j : Int)) := by
    intro js
    induction js with
    | nil => intro l h; exact .inl h
    | cons j js ih =>
      intro l h
      rcases ih _ h with h | ⟨i, hi, he⟩
      · rcases mem_put.1 h with h | h
        · exact .inr ⟨j, List.mem_cons_self .., h⟩
        · exact .inl h.1
      · exact .inr ⟨i, List.mem_cons_of_mem _ hi, he⟩
  rcases key js [] h with h | h
  · cases h
  · exact h
/-- If no key comes twice, all pairs are there. -/
theorem mem_putAll (ks : Nat → Int) (n : Nat) (hk : ∀ i j, i < n → j < n → ks i = ks j → i = j) (js : List Nat) (hj : ∀ j ∈ js, j < n) (e : Int × Int) :
    e ∈ putAll ks js ↔ ∃ j ∈ js, e = (ks j, (j : Int)) := by
  refine ⟨mem_putAll_sub ks js e, ?_⟩
  have key : ∀ (js : List Nat) (l : List (Int × Int)), (∀ j ∈ js, j < n) → ((∃ j ∈ js, e = (ks j, (j : Int))) ∨ ((∃ j, j < n ∧ e = (ks j, (j : Int))) ∧ e ∈ l)) → e ∈ js.foldl (fun l j => put l (ks j) (j : Int)) l := by
    intro js
    induction js with
    | nil => 
      rintro l _ (⟨j, hj, _⟩ | h)
      · cases hj
      · exact h.2
    | cons j js ih =>
      intro l hlt h
      refine ih _ (fun i hi => hlt i (List.mem_cons_of_mem _ hi)) ?_
      have hjn := hlt j (List.mem_cons_self ..)
      rcases h with ⟨i, hi, he⟩ | ⟨⟨i, hi, he⟩, hm⟩
      · rcases List.mem_cons.1 hi with rfl | hi
        · exact .inr ⟨⟨i, hjn, he⟩, mem_put.2 (.inl he)⟩
        · exact .inl ⟨i, hi, he⟩
      · refine .inr ⟨⟨i, hi, he⟩, mem_put.2 ?_⟩
        by_cases hij : ks i = ks j
        · have := hk i j hi hjn hij
          subst this
          exact .inl he
        · refine .inr ⟨hm, ?_⟩
          rw [he]; exact hij
  intro h
  exact key js [] hj (.inl h)
/-- Two orders of the same keys make the same. -/
theorem putAll_same (ks : Nat → Int) (n : Nat) (hk : ∀ i j, i < n → j < n → ks i = ks j → i = j) (js ms : List Nat) (hj : ∀ j, j ∈ js ↔ j < n) (hm : ∀ j, j ∈ ms ↔ j < n) : putAll ks js = putAll ks ms :=
  srt_ext (srt_putAll ks js) (srt_putAll ks ms) fun e => by
    rw [mem_putAll ks n hk js (fun j h => (hj j).1 h), mem_putAll ks n hk ms (fun j h => (hm j).1 h)]
    constructor
    · rintro ⟨j, h, he⟩; exact ⟨j, (hm j).2 ((hj j).1 h), he⟩
    · rintro ⟨j, h, he⟩; exact ⟨j, (hj j).2 ((hm j).1 h), he⟩
theorem len_putAll (ks : Nat → Int) (n : Nat) (hk : ∀ i j, i < n → j < n → ks i = ks j → i = j) (m : Nat) (hm : m ≤ n) : (putAll ks (List.range m)).length = m := by
  induction m with
  | zero => rfl
  | succ m ih =>
    rw [List.range_succ, putAll_snoc, len_put_new (srt_putAll ks _) _ _ ?_, ih (by omega)]
    rw [get_none]
    intro e he
    obtain ⟨j, hj, rfl⟩ := mem_putAll_sub ks _ e he
    have hj' := List.mem_range.1 hj
    intro h
    have := hk j m (by omega) (by omega) h
    omega
/-- The other order's places. -/
def turn (n by_ i : Nat) : Nat := (n - i + by_) % n
theorem turn_all (n by_ : Nat) (j : Nat) (hj : j < n) : ∃ i, i < n ∧ turn n by_ i = j := by
  have hb := Nat.mod_lt by_ (show 0 < n by omega)
  have hdb := Nat.div_add_mod by_ n
  have key : ∀ i, i ≤ n → (n - i + by_ % n) % n = turn n by_ i := fun i hi => by unfold turn; rw [Nat.add_mod_mod]
  rcases Nat.lt_or_ge (by_ % n) j with h | h
  · refine ⟨n - (j - by_ % n), by omega, ?_⟩
    rw [← key _ (by omega), show n - (n - (j - by_ % n)) + by_ % n = j by omega, Nat.mod_eq_of_lt hj]
  · refine ⟨by_ % n - j, by omega, ?_⟩
    rw [← key _ (by omega), show n - (by_ % n - j) + by_ % n = j + n by omega, Nat.add_mod_right, Nat.mod_eq_of_lt hj]
theorem turn_lt (n by_ i : Nat) (h : 0 < n) : turn n by_ i < n := Nat.mod_lt _ h
theorem turn_mem (n by_ : Nat) (j : Nat) : j ∈ (List.range n).map (turn n by_) ↔ j < n := by
  rw [List.mem_map]
  constructor
  · rintro ⟨i, hi, rfl⟩
    have := List.mem_range.1 hi
    exact turn_lt _ _ _ (by omega)
  · intro h
    obtain ⟨i, hi, he⟩ := turn_all n by_ j h
    exact ⟨i, List.mem_range.2 hi, he⟩
theorem order_same (ks : Nat → Int) (n by_ : Nat) (hk : ∀ i j, i < n → j < n → ks i = ks j → i = j) : putAll ks (List.range n) = putAll ks ((List.range n).map (turn n by_)) :=
  putAll_same ks n hk _ _ (fun j => List.mem_range) (turn_mem n by_)
end Dc
