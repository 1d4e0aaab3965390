/- Directories: filled one by one; how many keys. -/
import Derived.Test.YtcbedngimgkcoaaVertsLaws3
set_option linter.unusedVariables false
namespace Vt
/-- How many slots are used. -/
def cnt (l : List Sl) : Nat := (l.filter (·.1)).length
theorem keyed_cnt (l : List Sl) : ∀ d, keyed l = some d → d.length = cnt l ∧ Dc.Srt d := by
  refine rev_ind (p := fun l => ∀ d, keyed l = some d → d.length = cnt l ∧ Dc.Srt d) ?_ ?_ l
  · intro d h; cases h; exact ⟨rfl, List.Pairwise.nil⟩
  · intro l s ih d h
    rw [keyed_snoc] at h
    cases h1 : keyed l with
    | none => rw [h1] at h; cases h
    | some d1 =>
      obtain ⟨i1, i2⟩ := ih d1 h1
      rw [h1] at h
      obtain ⟨u, k⟩ := s
      cases u with
      | false =>
        simp only [kstep, Option.bind_some, Bool.false_eq_true, if_false] at h
        split at h
        · cases h; exact ⟨by simp [cnt] at i1 ⊢; exact i1, i2⟩
        · cases h
      | true =>
        simp only [kstep, Option.bind_some, if_true] at h
        split at h
        · cases h
        · rename_i hg
          cases h
          refine ⟨?_, Dc.srt_put i2 _ _⟩
          rw [Dc.len_put_new i2 _ _ (by simpa using hg), i1]
          simp [cnt]
def kf (first i : Int) : Int := (first + i) % 18446744073709551616
theorem kf_inj {first i j : Int} (h : kf first i = kf first j) (h1 : -1 ≤ i) (h2 : i ≤ 100) (h3 : -1 ≤ j) (h4 : j ≤ 100) : i = j := by
  unfold kf at h; omega
/-- j slots of s are filled. -/
def fl (s : Nat) (first : Int) (j : Nat) : List Sl := (List.range s).map fun i => if i < j then (true, kf first i) else (false, 0)
theorem fl_len (s : Nat) (first : Int) (j : Nat) : (fl s first j).length = s := by simp [fl]
theorem fl_at (s : Nat) (first : Int) (j i : Nat) (h : i < s) : (fl s first j)[i]? = some (if i < j then (true, kf first i) else (false, 0)) := by simp [fl, h]
theorem fl_get (s : Nat) (first : Int) (j i : Nat) (h : i < (fl s first j).length) : (fl s first j)[i] = if i < j then (true, kf first i) else (false, 0) := by simp [fl]
theorem fl_zero (s : Nat) (first : Int) : fl s first 0 = List.replicate s (false, 0) := by
  apply List.ext_getElem
  · simp [fl]
  · intro i h1 h2; simp [fl]
theorem fl_set (s : Nat) (first : Int) (j : Nat) : (fl s first j).set j (true, kf first j) = fl s first (j + 1) := by
  apply List.ext_getElem
  · simp [fl]
  · intro i h1 h2
    rw [List.getElem_set, fl_get]
    by_cases h : j = i
    · subst h; rw [if_pos rfl, fl_get, if_pos (by omega)]
    · rw [if_neg h, fl_get]
      by_cases h3 : i < j
      · rw [if_pos h3, if_pos (by omega)]
      · rw [if_neg h3, if_neg (by omega)]
theorem fl_ok {s : Nat} (h1 : 1 ≤ s) (h2 : s ≤ 60) (first : Int) (j : Nat) : Ok (fl s first j) := by
  refine ⟨by rw [fl_len]; exact h1, by rw [fl_len]; omega, ?_, ?_⟩
  · intro x hx hu
    obtain ⟨i, hi, rfl⟩ := List.getElem_of_mem hx
    rw [fl_get] at hu ⊢
    split at hu
    · cases hu
    · rename_i h; rw [if_neg h]
  · intro a b k ha hb
    have la : a < s := by have := (List.getElem?_eq_some_iff.1 ha).1; rwa [fl_len] at this
    have lb : b < s := by have := (List.getElem?_eq_some_iff.1 hb).1; rwa [fl_len] at this
    rw [fl_at _ _ _ _ la] at ha
    rw [fl_at _ _ _ _ lb] at hb
    split at ha
    · split at hb
      · simp at ha hb
        have := kf_inj (first := first) (i := (a : Int)) (j := (b : Int)) (by rw [ha, hb]) (by omega) (by omega) (by omega) (by omega)
        omega
      · simp at hb
    · simp at ha
theorem fl_fn {s : Nat} (h2 : s ≤ 60) (first : Int) {j : Nat} (x : Int) (hx : -1 ≤ x) (hx2 : x ≤ 100) (hj : ∀ i : Nat, i < j → i < s → (i : Int) ≠ x) : fn (fl s first j) (kf first x) = none := by
  apply fn_none
  intro i hi
  rw [fl_get]
  rw [fl_len] at hi
  split
  · rename_i h
    intro ⟨_, hk⟩
    exact hj i h hi (kf_inj hk (by omega) (by omega) hx hx2)
  · simp
theorem fl_ff {s : Nat} (first : Int) {j : Nat} (hj : j < s) : ff (fl s first j) = some j := by
  apply ff_here (h := by rw [fl_len]; exact hj)
  · intro i hi; rw [fl_get, if_pos hi]
  · rw [fl_get, if_neg (by omega)]
theorem fl_full {s : Nat} (first : Int) : ff (fl s first s) = none := by
  apply ff_none
  intro i hi
  rw [fl_get]
  rw [fl_len] at hi
  rw [if_pos hi]
theorem fl_cnt {s : Nat} (first : Int) : cnt (fl s first s) = s := by
  unfold cnt
  rw [List.filter_eq_self.2, fl_len]
  intro x hx
  obtain ⟨i, hi, rfl⟩ := List.getElem_of_mem hx
  rw [fl_get]
  rw [fl_len] at hi
  rw [if_pos hi]
theorem fl_add {s : Nat} (h1 : 1 ≤ s) (h2 : s ≤ 60) (first : Int) {j : Nat} (hj : j < s) : add (fl s first j) (kf first j) = (fl s first (j + 1), j, 0) := by
  rw [add_ok (fl_ok h1 h2 first j) (fl_fn h2 first (j : Int) (by omega) (by omega) (fun i h _ => by omega)) (fl_ff first hj), fl_set]
theorem fl_add_full {s : Nat} (h1 : 1 ≤ s) (h2 : s ≤ 60) (first : Int) : add (fl s first s) (kf first (-1)) = (fl s first s, 0, 10) :=
  add_full (fl_ok h1 h2 first s) (fl_fn h2 first (-1) (by omega) (by omega) (fun i h _ => by omega)) (fl_full first)
end Vt
