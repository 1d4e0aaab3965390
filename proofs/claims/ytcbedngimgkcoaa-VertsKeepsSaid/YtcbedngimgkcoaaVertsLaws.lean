/- Directories: the first slot that is free, the slot of a key, adding and removing. -/
import Derived.Test.YtcbedngimgkcoaaVertsPlain
set_option linter.unusedVariables false
namespace Vt
/-- The first slot that is not used. -/
def ff (l : List Sl) : Option Nat := l.findIdx? fun s => !s.1
theorem ff_here {l : List Sl} {j : Nat} (h : j < l.length) (h1 : ∀ i, (hi : i < j) → l[i].1 = true) (h2 : l[j].1 = false) : ff l = some j := by
  unfold ff
  rw [List.findIdx?_eq_some_iff_getElem]
  exact ⟨h, by simp [h2], fun i hi => by simp [h1 i hi]⟩
theorem ff_none {l : List Sl} (h1 : ∀ i, (hi : i < l.length) → l[i].1 = true) : ff l = none := by
  unfold ff
  rw [List.findIdx?_eq_none_iff]
  intro x hx
  obtain ⟨i, hi, rfl⟩ := List.getElem_of_mem hx
  simp [h1 i hi]
theorem ff_some {l : List Sl} {j : Nat} (h : ff l = some j) : ∃ h : j < l.length, l[j].1 = false ∧ ∀ i, (hi : i < j) → l[i].1 = true := by
  unfold ff at h
  rw [List.findIdx?_eq_some_iff_getElem] at h
  obtain ⟨h, h1, h2⟩ := h
  exact ⟨h, by simpa using h1, fun i hi => by simpa using h2 i hi⟩
theorem ff_none' {l : List Sl} (h : ff l = none) : ∀ i, (hi : i < l.length) → l[i].1 = true := by
  unfold ff at h
  rw [List.findIdx?_eq_none_iff] at h
  intro i hi
  have := h l[i] (List.getElem_mem hi)
  simpa using this
/-- The first slot of a key. -/
def fn (l : List Sl) (k : Int) : Option Nat := l.findIdx? fun s => s.1 && s.2 == k
theorem fn_here {l : List Sl} {k : Int} {j : Nat} (h : j < l.length) (h1 : ∀ i, (hi : i < j) → ¬ (l[i].1 = true ∧ l[i].2 = k)) (h2 : l[j].1 = true ∧ l[j].2 = k) : fn l k = some j := by
  unfold fn
  rw [List.findIdx?_eq_some_iff_getElem]
  exact ⟨h, by simp [h2.1, h2.2], fun i hi => by have := h1 i hi; simpa using this⟩
theorem fn_none {l : List Sl} {k : Int} (h1 : ∀ i, (hi : i < l.length) → ¬ (l[i].1 = true ∧ l[i].2 = k)) : fn l k = none := by
  unfold fn
  rw [List.findIdx?_eq_none_iff]
  intro x hx
  obtain ⟨i, hi, rfl⟩ := List.getElem_of_mem hx
  have := h1 i hi
  simpa using this
theorem fn_some {l : List Sl} {k : Int} {j : Nat} (h : fn l k = some j) : l[j]? = some (true, k) := by
  unfold fn at h
  rw [List.findIdx?_eq_some_iff_getElem] at h
  obtain ⟨h, h1, h2⟩ := h
  simp at h1
  rw [List.getElem?_eq_getElem h, ← h1.1, ← h1.2]
theorem fn_none' {l : List Sl} {k : Int} (h : fn l k = none) (i : Nat) : l[i]? ≠ some (true, k) := by
  intro hi
  unfold fn at h
  rw [List.findIdx?_eq_none_iff] at h
  have := h (true, k) (List.mem_of_getElem? hi)
  simp at this
theorem get_fn {l : List Sl} {d : List (Int × Int)} (h : Of l d) (hd : Dir l) (k : Int) : Dc.get d k = (fn l k).map fun i : Nat => (i : Int) := by
  obtain ⟨hs, _, hm⟩ := h
  cases hf : fn l k with
  | none =>
    rw [Option.map_none, Dc.get_none]
    rintro e he rfl
    obtain ⟨i, _, hi⟩ := (hm _ _).1 he
    exact fn_none' hf i hi
  | some j =>
    rw [Option.map_some, Dc.get_some hs, hm]
    exact ⟨j, rfl, fn_some hf⟩
theorem dir_fn {l : List Sl} (hd : Dir l) {k : Int} {i : Nat} (hi : l[i]? = some (true, k)) : fn l k = some i := by
  cases hf : fn l k with
  | none => exact absurd hi (fn_none' hf i)
  | some j => rw [hd.2 i j k hi (fn_some hf)]
theorem at_set {l : List Sl} {v : Nat} (hv : v < l.length) (s x : Sl) (i : Nat) : (l.set v s)[i]? = some x ↔ (i = v ∧ s = x) ∨ (i ≠ v ∧ l[i]? = some x) := by
  by_cases h : v = i
  · subst h; simp [hv]
  · rw [List.getElem?_set_ne h]
    constructor
    · intro h'; exact .inr ⟨fun e => h e.symm, h'⟩
    · rintro (⟨e, _⟩ | ⟨_, h'⟩)
      · exact absurd e.symm h
      · exact h'
theorem mem_iff {l : List Sl} {s : Sl} : s ∈ l ↔ ∃ i : Nat, l[i]? = some s := List.mem_iff_getElem?
theorem dir_add {l : List Sl} (hd : Dir l) {k : Int} (hk : fn l k = none) {v : Nat} (hv : v < l.length) : Dir (l.set v (true, k)) := by
  constructor
  · intro s hs hu
    obtain ⟨i, hi⟩ := mem_iff.1 hs
    rcases (at_set hv _ _ _).1 hi with ⟨_, rfl⟩ | ⟨_, hi⟩
    · cases hu
    · exact hd.1 s (mem_iff.2 ⟨i, hi⟩) hu
  · intro i j k' hi hj
    rcases (at_set hv _ _ _).1 hi with ⟨e1, h1⟩ | ⟨n1, hi⟩ <;> rcases (at_set hv _ _ _).1 hj with ⟨e2, h2⟩ | ⟨n2, hj⟩
    · omega
    · cases h1; exact absurd hj (fn_none' hk j)
    · cases h2; exact absurd hi (fn_none' hk i)
    · exact hd.2 i j k' hi hj
theorem dir_rem {l : List Sl} (hd : Dir l) {v : Nat} (hv : v < l.length) : Dir (l.set v (false, 0)) := by
  constructor
  · intro s hs hu
    obtain ⟨i, hi⟩ := mem_iff.1 hs
    rcases (at_set hv _ _ _).1 hi with ⟨_, rfl⟩ | ⟨_, hi⟩
    · rfl
    · exact hd.1 s (mem_iff.2 ⟨i, hi⟩) hu
  · intro i j k' hi hj
    rcases (at_set hv _ _ _).1 hi with ⟨e1, h1⟩ | ⟨n1, hi⟩
    · cases h1
    · rcases (at_set hv _ _ _).1 hj with ⟨e2, h2⟩ | ⟨n2, hj⟩
      · cases h2
      · exact hd.2 i j k' hi hj
/-- The sizes and being a directory. -/
def Ok (l : List Sl) : Prop := 1 ≤ l.length ∧ l.length ≤ 1024 ∧ Dir l
theorem ok_add {l : List Sl} (hd : Ok l) {k : Int} (hk : fn l k = none) {v : Nat} (hv : v < l.length) : Ok (l.set v (true, k)) := ⟨by simpa using hd.1, by simpa using hd.2.1, dir_add hd.2.2 hk hv⟩
theorem ok_rem {l : List Sl} (hd : Ok l) {v : Nat} (hv : v < l.length) : Ok (l.set v (false, 0)) := ⟨by simpa using hd.1, by simpa using hd.2.1, dir_rem hd.2.2 hv⟩
open Classical in
/-- Adding: the slots, which one, the error. -/
noncomputable def add (l : List Sl) (k : Int) : List Sl × Nat × Nat :=
  if Ok l then (if (fn l k).isSome then (l, 0, 4) else match ff l with | none => (l, 0, 10) | some v => (l.set v (true, k), v, 0)) else (l, 0, 1)
open Classical in
noncomputable def rem (l : List Sl) (k : Int) : List Sl × Nat :=
  if Ok l then (match fn l k with | none => (l, 7) | some v => (l.set v (false, 0), 0)) else (l, 1)
theorem add_bad {l : List Sl} (h : ¬ Ok l) (k : Int) : add l k = (l, 0, 1) := by unfold add; rw [if_neg h]
theorem add_there {l : List Sl} (h : Ok l) {k : Int} (hk : (fn l k).isSome = true) : add l k = (l, 0, 4) := by unfold add; rw [if_pos h, if_pos hk]
theorem add_full {l : List Sl} (h : Ok l) {k : Int} (hk : fn l k = none) (hf : ff l = none) : add l k = (l, 0, 10) := by unfold add; rw [if_pos h, if_neg (by rw [hk]; simp), hf]
theorem add_ok {l : List Sl} (h : Ok l) {k : Int} (hk : fn l k = none) {v : Nat} (hf : ff l = some v) : add l k = (l.set v (true, k), v, 0) := by unfold add; rw [if_pos h, if_neg (by rw [hk]; simp), hf]
theorem rem_bad {l : List Sl} (h : ¬ Ok l) (k : Int) : rem l k = (l, 1) := by unfold rem; rw [if_neg h]
theorem rem_none {l : List Sl} (h : Ok l) {k : Int} (hk : fn l k = none) : rem l k = (l, 7) := by unfold rem; rw [if_pos h, hk]
theorem rem_ok {l : List Sl} (h : Ok l) {k : Int} {v : Nat} (hf : fn l k = some v) : rem l k = (l.set v (false, 0), 0) := by unfold rem; rw [if_pos h, hf]
theorem len_add (l : List Sl) (k : Int) : (add l k).1.length = l.length := by
  unfold add
  split
  · split
    · rfl
    · split <;> simp
  · rfl
theorem len_rem (l : List Sl) (k : Int) : (rem l k).1.length = l.length := by
  unfold rem
  split
  · split <;> simp
  · rfl
theorem add_cases (l : List Sl) (k : Int) : (¬ Ok l ∧ add l k = (l, 0, 1)) ∨ (Ok l ∧ (∃ j, fn l k = some j) ∧ add l k = (l, 0, 4)) ∨ (Ok l ∧ fn l k = none ∧ ff l = none ∧ add l k = (l, 0, 10)) ∨
    (Ok l ∧ fn l k = none ∧ ∃ v, ff l = some v ∧ add l k = (l.set v (true, k), v, 0)) := by
  by_cases h : Ok l
  · cases hk : fn l k with
    | some j => exact .inr (.inl ⟨h, ⟨j, rfl⟩, add_there h (by rw [hk]; rfl)⟩)
    | none =>
      cases hf : ff l with
      | none => exact .inr (.inr (.inl ⟨h, rfl, rfl, add_full h hk hf⟩))
      | some v => exact .inr (.inr (.inr ⟨h, rfl, v, rfl, add_ok h hk hf⟩))
  · exact .inl ⟨h, add_bad h k⟩
theorem rem_cases (l : List Sl) (k : Int) : (¬ Ok l ∧ rem l k = (l, 1)) ∨ (Ok l ∧ fn l k = none ∧ rem l k = (l, 7)) ∨ (Ok l ∧ ∃ v, fn l k = some v ∧ rem l k = (l.set v (false, 0), 0)) := by
  by_cases h : Ok l
  · cases hk : fn l k with
    | none => exact .inr (.inl ⟨h, rfl, rem_none h hk⟩)
    | some v => exact .inr (.inr ⟨h, v, rfl, rem_ok h hk⟩)
  · exact .inl ⟨h, rem_bad h k⟩
/-- The first stores: the answers of the first words. -/
theorem ff_set {l : List Sl} {v : Nat} (h : ff l = some v) (k : Int) : (l.set v (true, k)).set v (false, 0) = l ∨ l[v]? ≠ some (false, 0) := by
  by_cases hc : l[v]? = some (false, 0)
  · left
    obtain ⟨hv, _⟩ := ff_some h
    rw [List.set_set]
    rw [List.getElem?_eq_getElem hv] at hc
    have := Option.some.inj hc
    rw [← this, List.set_getElem_self]
  · exact .inr hc
/-! ## Keys, one after the other -/
def ks (d : List (Int × Int)) : List Int := d.map (·.1)
theorem ks_len (d : List (Int × Int)) : (ks d).length = d.length := by simp [ks]
theorem ks_put {d : List (Int × Int)} (hs : Dc.Srt d) {k : Int} (hn : Dc.get d k = none) (n : Int) : ks (Dc.put d k n) = (ks d).take (Dc.less d k) ++ [k] ++ (ks d).drop (Dc.less d k) := by
  obtain ⟨h1, h2⟩ := Dc.take_less d k hs
  have h3 : d.filter (fun e => decide (k ≤ e.1)) = d.filter (fun e => decide (k < e.1)) := by
    apply List.filter_congr
    intro e he
    have : e.1 ≠ k := Dc.get_none.1 hn e he
    simp only [decide_eq_decide]
    omega
  unfold ks Dc.put
  rw [List.map_append, List.map_cons, ← List.map_take, ← List.map_drop, h1, h2, h3]
  simp
theorem ks_less {d : List (Int × Int)} (hs : Dc.Srt d) (k : Int) {p : Nat} (hp : p < d.length) : (ks d).getD p 0 < k ↔ p < Dc.less d k := by
  have h := Dc.less_iff hs k p hp
  have e : (ks d).getD p 0 = d[p].1 := by simp [ks, List.getD, hp]
  rw [e]
  omega
theorem keyed_pre {l : List Sl} (hd : Dir l) (i : Nat) : ∃ d, keyed (l.take i) = some d ∧ Dc.Srt d ∧ d.length ≤ i := by
  rcases keyed_cases l with ⟨d0, h0, -, -⟩ | ⟨-, h2⟩
  · rcases keyed_cases (l.take i) with ⟨d, h1, h2, -⟩ | ⟨h1, -⟩
    · refine ⟨d, h1, h2.1, ?_⟩
      have := h2.2.1
      rw [List.length_take] at this
      omega
    · rw [keyed_none l i h1] at h0; cases h0
  · exact absurd hd h2
theorem keyed_step {l : List Sl} (hd : Dir l) {i : Nat} (hi : i < l.length) {d : List (Int × Int)} (h : keyed (l.take i) = some d) :
    (l[i].1 = false ∧ keyed (l.take (i + 1)) = some d) ∨ (l[i].1 = true ∧ Dc.get d l[i].2 = none ∧ keyed (l.take (i + 1)) = some (Dc.put d l[i].2 (i : Int))) := by
  obtain ⟨d', h1, -, -⟩ := keyed_pre hd (i + 1)
  have h2 := keyed_take l i hi
  rw [h, h1] at h2
  generalize l[i] = s at *
  obtain ⟨u, k⟩ := s
  cases u with
  | false =>
    left
    refine ⟨rfl, ?_⟩
    simp only [kstep, Option.bind_some] at h2
    simp only [Bool.false_eq_true, if_false] at h2
    split at h2
    · rw [h1, h2]
    · cases h2
  | true =>
    right
    simp only [kstep, Option.bind_some, if_true] at h2
    split at h2
    · cases h2
    · rename_i hg
      refine ⟨rfl, by simpa using hg, ?_⟩
      rw [h1, h2]
end Vt
