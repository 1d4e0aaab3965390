import Derived.Test.YtcbedngimgkcoaaSeqPlain
set_option linter.unusedVariables false
namespace Sq
variable {α : Type}

/-- The heights of both sides differ by at most 1, everywhere. -/
def Bal : Tr α → Prop
  | .nil => True
  | .node a _ b => Bal a ∧ Bal b ∧ ht a ≤ ht b + 1 ∧ ht b ≤ ht a + 1
theorem bal_turned (a : Tr α) (x : α) (b : Tr α) (ha : Bal a) (hb : Bal b) (h1 : ht a ≤ ht b + 2) (h2 : ht b ≤ ht a + 2) :
    Bal (turned a x b) ∧ max (ht a) (ht b) ≤ ht (turned a x b) ∧ ht (turned a x b) ≤ max (ht a) (ht b) + 1 ∧ (ht a ≤ ht b + 1 → ht b ≤ ht a + 1 → ht (turned a x b) = max (ht a) (ht b) + 1) := by
  by_cases c1 : ht b + 1 < ht a
  · cases a with
    | nil => simp [ht] at c1
    | node aa ax ab =>
      obtain ⟨b1, b2, b3, b4⟩ := ha
      by_cases c2 : ht ab ≤ ht aa
      · rw [turned_l1 c1 c2]
        simp only [ht, Bal] at *
        refine ⟨⟨b1, ⟨b2, hb, by omega, by omega⟩, by omega, by omega⟩, by omega, by omega, by omega⟩
      · cases ab with
        | nil => simp [ht] at c2
        | node ta tx tb =>
          rw [turned_l2 c1 c2]
          obtain ⟨e1, e2, e3, e4⟩ := b2
          simp only [ht, Bal] at *
          refine ⟨⟨⟨b1, e1, by omega, by omega⟩, ⟨e2, hb, by omega, by omega⟩, by omega, by omega⟩, by omega, by omega, by omega⟩
  · by_cases c2 : ht a + 1 < ht b
    · cases b with
      | nil => simp [ht] at c2
      | node ba bx bb =>
        obtain ⟨b1, b2, b3, b4⟩ := hb
        by_cases c3 : ht ba ≤ ht bb
        · rw [turned_r1 c1 c2 c3]
          simp only [ht, Bal] at *
          refine ⟨⟨⟨ha, b1, by omega, by omega⟩, b2, by omega, by omega⟩, by omega, by omega, by omega⟩
        · cases ba with
          | nil => simp [ht] at c3
          | node ta tx tb =>
            rw [turned_r2 c1 c2 c3]
            obtain ⟨e1, e2, e3, e4⟩ := b1
            simp only [ht, Bal] at *
            refine ⟨⟨⟨ha, e1, by omega, by omega⟩, ⟨e2, b2, by omega, by omega⟩, by omega, by omega⟩, by omega, by omega, by omega⟩
    · rw [turned_c c1 c2]
      simp only [ht, Bal] at *
      refine ⟨⟨ha, hb, by omega, by omega⟩, by omega, ?_, ?_⟩
      all_goals first | trivial | omega | (intros; trivial)
theorem bal_around (a : Tr α) (x : α) (b : Tr α) (ha : Bal a) (hb : Bal b) :
    Bal (around a x b) ∧ max (ht a) (ht b) ≤ ht (around a x b) ∧ ht (around a x b) ≤ max (ht a) (ht b) + 1 := by
  generalize hn : sz a + sz b = n
  induction n using Nat.strongRecOn generalizing a b with
  | _ n ih =>
    by_cases h0 : ht b + 1 < ht a
    · cases a with
      | nil => simp [ht] at h0
      | node aa ax ab =>
        obtain ⟨b1, b2, b3, b4⟩ := ha
        obtain ⟨r1, r2, r3⟩ := ih (sz ab + sz b) (by simp [sz] at hn; omega) ab b b2 hb rfl
        rw [around_left h0]
        generalize around ab x b = r at *
        simp only [ht] at h0
        obtain ⟨t1, t2, t3, t4⟩ := bal_turned aa ax r b1 r1 (by omega) (by omega)
        refine ⟨t1, ?_, ?_⟩
        · simp only [ht]
          by_cases hd : ht r ≤ ht aa + 1
          · have := t4 (by omega) hd; omega
          · omega
        · simp only [ht]; omega
    · by_cases h1 : ht a + 1 < ht b
      · cases b with
        | nil => simp [ht] at h1
        | node ba bx bb =>
          obtain ⟨b1, b2, b3, b4⟩ := hb
          obtain ⟨r1, r2, r3⟩ := ih (sz a + sz ba) (by simp [sz] at hn; omega) a ba ha b1 rfl
          rw [around_right h0 h1]
          generalize around a x ba = r at *
          simp only [ht] at h1
          obtain ⟨t1, t2, t3, t4⟩ := bal_turned r bx bb r1 b2 (by omega) (by omega)
          refine ⟨t1, ?_, ?_⟩
          · simp only [ht]
            by_cases hd : ht r ≤ ht bb + 1
            · have := t4 hd (by omega); omega
            · omega
          · simp only [ht]; omega
      · rw [around_mid h0 h1]
        simp only [ht, Bal]
        exact ⟨⟨ha, hb, by omega, by omega⟩, by omega, by omega⟩
theorem bal_split (t : Tr α) (i : Int) (h : Bal t) : Bal (split t i).1 ∧ Bal (split t i).2 := by
  induction t generalizing i with
  | nil => exact ⟨trivial, trivial⟩
  | node a x b iha ihb =>
    rw [split]
    split
    · exact ⟨trivial, h⟩
    · split
      · exact ⟨h, trivial⟩
      · obtain ⟨b1, b2, b3, b4⟩ := h
        split
        · exact ⟨(iha i b1).1, (bal_around _ _ _ (iha i b1).2 b2).1⟩
        · exact ⟨(bal_around _ _ _ b1 (ihb _ b2).1).1, (ihb _ b2).2⟩
theorem bal_join (a b : Tr α) (ha : Bal a) (hb : Bal b) : Bal (join a b) := by
  unfold join
  split
  · exact ha
  · exact (bal_around _ _ _ ha (bal_split b 1 hb).2).1
/-- How many things a sequence of this height has at least, and one. -/
def mn : Nat → Nat
  | 0 => 1
  | 1 => 2
  | h + 2 => mn (h + 1) + mn h
theorem mn_mono (h : Nat) : mn h ≤ mn (h + 1) ∧ 3 * mn h ≤ 2 * mn (h + 1) ∧ 3 * mn (h + 1) ≤ 2 * mn (h + 2) ∧ 0 < mn h := by
  induction h with
  | zero => decide
  | succ h ih =>
    have e : mn (h + 1 + 2) = mn (h + 2) + mn (h + 1) := rfl
    have e2 : mn (h + 1 + 1) = mn (h + 1) + mn h := rfl
    have e3 : mn (h + 2) = mn (h + 1) + mn h := rfl
    omega
theorem mn_le {a b : Nat} (h : a ≤ b) : mn a ≤ mn b := by
  induction b with
  | zero => have : a = 0 := by omega
            subst this; exact Nat.le_refl _
  | succ b ih =>
    rcases Nat.lt_or_ge b a with h1 | h1
    · have : a = b + 1 := by omega
      subst this; exact Nat.le_refl _
    · exact Nat.le_trans (ih h1) (mn_mono b).1
theorem mn_sz (t : Tr α) (h : Bal t) : mn (ht t) ≤ sz t + 1 := by
  induction t with
  | nil => exact Nat.le_refl _
  | node a x b iha ihb =>
    obtain ⟨b1, b2, b3, b4⟩ := h
    have ha := iha b1
    have hb := ihb b2
    simp only [ht, sz]
    rcases Nat.lt_trichotomy (ht a) (ht b) with h1 | h1 | h1
    · have e : ht b = ht a + 1 := by omega
      rw [e, Nat.max_eq_right (by omega)]
      have : mn (ht a + 1 + 1) = mn (ht a + 1) + mn (ht a) := rfl
      rw [e] at hb; omega
    · rw [h1, Nat.max_self]
      rw [h1] at ha
      cases hh : ht b with
      | zero => show 2 ≤ _; omega
      | succ k =>
        have e : mn (k + 1 + 1) = mn (k + 1) + mn k := rfl
        have := (mn_mono k).1
        rw [hh] at ha hb; omega
    · have e : ht a = ht b + 1 := by omega
      rw [e, Nat.max_eq_left (by omega)]
      have : mn (ht b + 1 + 1) = mn (ht b + 1) + mn (ht b) := rfl
      rw [e] at ha; omega
theorem mn_pow (L : Nat) : ∀ h, 3 * L + 2 ≤ 2 * h → 2 ^ L + 1 ≤ mn h := by
  have key : ∀ L, (∀ h, 3 * L + 2 ≤ 2 * h → 2 ^ L + 1 ≤ mn h) ∧ (∀ h, 3 * (L + 1) + 2 ≤ 2 * h → 2 ^ (L + 1) + 1 ≤ mn h) := by
    intro L
    induction L with
    | zero =>
      refine ⟨fun h hh => ?_, fun h hh => ?_⟩
      · have := mn_le (a := 1) (b := h) (by omega); exact this
      · have := mn_le (a := 3) (b := h) (by omega)
        have e : mn 3 = 5 := rfl
        omega
    | succ L ih =>
      refine ⟨ih.2, fun h hh => ?_⟩
      obtain ⟨k, rfl⟩ : ∃ k, h = k + 3 := ⟨h - 3, by omega⟩
      have h1 := ih.1 k (by omega)
      have e1 : mn (k + 3) = mn (k + 2) + mn (k + 1) := rfl
      have e2 : mn (k + 2) = mn (k + 1) + mn k := rfl
      have h2 := mn_mono k
      have e3 : 2 ^ (L + 1 + 1) = 4 * 2 ^ L := by rw [Nat.pow_succ, Nat.pow_succ]; omega
      omega
  exact (key L).1
/-- A sequence that stands well is not high. -/
theorem bal_low (t : Tr α) (h : Bal t) (L : Nat) (hL : sz t < 2 ^ L) : 2 * ht t ≤ 3 * L + 1 := by
  rcases Nat.lt_or_ge (3 * L + 1) (2 * ht t) with h1 | h1
  · have := mn_pow L (ht t) (by omega)
    have := mn_sz t h
    omega
  · exact h1
theorem bal_one (x : α) : Bal (ofL [x]) := by
  have e : ofL [x] = .node .nil x .nil := by simp [ofL, ofF]
  rw [e]
  exact ⟨trivial, trivial, Nat.zero_le _, Nat.zero_le _⟩
/-- What grows one by one. -/
def grow (front : Bool) : Nat → Tr Int
  | 0 => .nil
  | n + 1 => if front then join (ofL [(n : Int)]) (grow front n) else join (grow front n) (ofL [(n : Int)])
theorem bal_grow (f : Bool) (n : Nat) : Bal (grow f n) := by
  induction n with
  | zero => trivial
  | succ n ih => cases f
                 · exact bal_join _ _ ih (bal_one _)
                 · exact bal_join _ _ (bal_one _) ih
theorem ls_grow_f (n : Nat) : ls (grow true (n + 1)) = (n : Int) :: ls (grow true n) := by
  show ls (join (ofL [(n : Int)]) (grow true n)) = _
  rw [ls_join, ls_ofL]; rfl
theorem ls_grow_b (n : Nat) : ls (grow false (n + 1)) = ls (grow false n) ++ [(n : Int)] := by
  show ls (join (grow false n) (ofL [(n : Int)])) = _
  rw [ls_join, ls_ofL]
theorem sz_grow (f : Bool) (n : Nat) : sz (grow f n) = n := by
  rw [← len_ls]
  induction n with
  | zero => rfl
  | succ n ih => cases f
                 · rw [ls_grow_b]; simp [ih]
                 · rw [ls_grow_f]; simp [ih]
theorem first_b (n : Nat) (h : 0 < n) : (ls (grow false n))[0]? = some 0 := by
  induction n with
  | zero => omega
  | succ n ih =>
    rw [ls_grow_b]
    cases n with
    | zero => rfl
    | succ n =>
      have := ih (by omega)
      rw [List.getElem?_append_left (by rw [len_ls, sz_grow]; omega)]; exact this
theorem first_f (n : Nat) : (ls (grow true (n + 1)))[0]? = some (n : Int) := by rw [ls_grow_f]; rfl
end Sq
