/- The plain mathematics of chapter 19, merged. -/
set_option linter.unusedVariables false
set_option linter.unusedVariables false
namespace Sq

/-- A sequence: a thing with what stands ahead and behind. -/
inductive Tr (α : Type) where
  | nil : Tr α
  | node : Tr α → α → Tr α → Tr α

variable {α : Type}
def ht : Tr α → Nat
  | .nil => 0
  | .node a _ b => max (ht a) (ht b) + 1
def sz : Tr α → Nat
  | .nil => 0
  | .node a _ b => sz a + 1 + sz b
def ls : Tr α → List α
  | .nil => []
  | .node a x b => ls a ++ x :: ls b
theorem len_ls (t : Tr α) : (ls t).length = sz t := by
  induction t with
  | nil => rfl
  | node a x b iha ihb => simp [ls, sz, iha, ihb]; omega
theorem ht_le_sz (t : Tr α) : ht t ≤ sz t := by
  induction t with
  | nil => exact Nat.le_refl _
  | node a x b iha ihb => simp [ht, sz]; omega
theorem ht_zero {t : Tr α} (h : ht t = 0) : t = .nil := by
  cases t with
  | nil => rfl
  | node a x b => simp [ht] at h
theorem sz_zero {t : Tr α} (h : sz t = 0) : t = .nil := by
  cases t with
  | nil => rfl
  | node a x b => simp [sz] at h
theorem ht_pos {t : Tr α} (h : 0 < sz t) : 0 < ht t := by
  cases t with
  | nil => simp [sz] at h
  | node a x b => simp [ht]

/-- What turns a sequence whose sides differ by two. -/
def turned (a : Tr α) (x : α) (b : Tr α) : Tr α :=
  if ht b + 1 < ht a then
    match a with
    | .nil => .node a x b
    | .node aa ax ab =>
      if ht ab ≤ ht aa then .node aa ax (.node ab x b)
      else match ab with
        | .nil => .node a x b
        | .node ta tx tb => .node (.node aa ax ta) tx (.node tb x b)
  else if ht a + 1 < ht b then
    match b with
    | .nil => .node a x b
    | .node ba bx bb =>
      if ht ba ≤ ht bb then .node (.node a x ba) bx bb
      else match ba with
        | .nil => .node a x b
        | .node ta tx tb => .node (.node a x ta) tx (.node tb bx bb)
  else .node a x b

theorem turned_l1 {aa : Tr α} {ax : α} {ab : Tr α} {x : α} {b : Tr α} (h : ht b + 1 < ht (.node aa ax ab)) (h1 : ht ab ≤ ht aa) : turned (.node aa ax ab) x b = .node aa ax (.node ab x b) := by
  unfold turned; rw [if_pos h]; simp only []; rw [if_pos h1]
theorem turned_l2 {aa : Tr α} {ax : α} {ta : Tr α} {tx : α} {tb : Tr α} {x : α} {b : Tr α} (h : ht b + 1 < ht (.node aa ax (.node ta tx tb))) (h1 : ¬ ht (.node ta tx tb) ≤ ht aa) :
    turned (.node aa ax (.node ta tx tb)) x b = .node (.node aa ax ta) tx (.node tb x b) := by
  unfold turned; rw [if_pos h]; simp only []; rw [if_neg h1]
theorem turned_r1 {a : Tr α} {x : α} {ba : Tr α} {bx : α} {bb : Tr α} (h0 : ¬ ht (.node ba bx bb) + 1 < ht a) (h : ht a + 1 < ht (.node ba bx bb)) (h1 : ht ba ≤ ht bb) : turned a x (.node ba bx bb) = .node (.node a x ba) bx bb := by
  unfold turned; rw [if_neg h0, if_pos h]; simp only []; rw [if_pos h1]
theorem turned_r2 {a : Tr α} {x : α} {ta : Tr α} {tx : α} {tb : Tr α} {bx : α} {bb : Tr α} (h0 : ¬ ht (.node (.node ta tx tb) bx bb) + 1 < ht a) (h : ht a + 1 < ht (.node (.node ta tx tb) bx bb)) (h1 : ¬ ht (.node ta tx tb) ≤ ht bb) :
    turned a x (.node (.node ta tx tb) bx bb) = .node (.node a x ta) tx (.node tb bx bb) := by
  unfold turned; rw [if_neg h0, if_pos h]; simp only []; rw [if_neg h1]
theorem turned_c {a : Tr α} {x : α} {b : Tr α} (h0 : ¬ ht b + 1 < ht a) (h1 : ¬ ht a + 1 < ht b) : turned a x b = .node a x b := by
  unfold turned; rw [if_neg h0, if_neg h1]
theorem ls_turned (a : Tr α) (x : α) (b : Tr α) : ls (turned a x b) = ls a ++ x :: ls b := by
  unfold turned
  split
  · split
    · rfl
    · split
      · simp [ls]
      · split
        · simp [ls]
        · simp [ls]
  · split
    · split
      · rfl
      · split
        · simp [ls]
        · split
          · simp [ls]
          · simp [ls]
    · rfl

/-- What stands ahead, a thing, and what stands behind, of any heights (by so many steps at most). -/
def aroundF : Nat → Tr α → α → Tr α → Tr α
  | 0, a, x, b => .node a x b
  | n + 1, a, x, b =>
    if ht b + 1 < ht a then
      match a with
      | .nil => .node a x b
      | .node aa ax ab => turned aa ax (aroundF n ab x b)
    else if ht a + 1 < ht b then
      match b with
      | .nil => .node a x b
      | .node ba bx bb => turned (aroundF n a x ba) bx bb
    else .node a x b
theorem aroundF_eq (n m : Nat) (a : Tr α) (x : α) (b : Tr α) (hn : sz a + sz b ≤ n) (hm : sz a + sz b ≤ m) : aroundF n a x b = aroundF m a x b := by
  induction n generalizing m a b with
  | zero =>
    have ha : a = .nil := sz_zero (by omega)
    have hb : b = .nil := sz_zero (by omega)
    subst ha hb
    cases m <;> simp [aroundF, ht]
  | succ n ih =>
    cases m with
    | zero =>
      have ha : a = .nil := sz_zero (by omega)
      have hb : b = .nil := sz_zero (by omega)
      subst ha hb
      simp [aroundF, ht]
    | succ m =>
      simp only [aroundF]
      split
      · cases a with
        | nil => rfl
        | node aa ax ab =>
          simp only [sz] at hn hm
          show turned aa ax (aroundF n ab x b) = turned aa ax (aroundF m ab x b)
          rw [ih m ab b (by omega) (by omega)]
      · split
        · cases b with
          | nil => rfl
          | node ba bx bb =>
            simp only [sz] at hn hm
            show turned (aroundF n a x ba) bx bb = turned (aroundF m a x ba) bx bb
            rw [ih m a ba (by omega) (by omega)]
        · rfl
def around (a : Tr α) (x : α) (b : Tr α) : Tr α := aroundF (sz a + sz b) a x b
theorem around_left {aa : Tr α} {ax : α} {ab : Tr α} {x : α} {b : Tr α} (h : ht b + 1 < ht (.node aa ax ab)) : around (.node aa ax ab) x b = turned aa ax (around ab x b) := by
  unfold around
  rw [aroundF_eq _ (sz ab + sz b + (sz aa + 1)) _ _ _ (Nat.le_refl _) (by simp [sz]; omega), show sz ab + sz b + (sz aa + 1) = (sz ab + sz b + sz aa) + 1 by omega]
  simp only [aroundF]
  rw [if_pos h]
  show turned aa ax (aroundF _ ab x b) = _
  rw [aroundF_eq _ (sz ab + sz b) _ _ _ (by omega) (Nat.le_refl _)]
theorem around_right {a : Tr α} {x : α} {ba : Tr α} {bx : α} {bb : Tr α} (h0 : ¬ ht (.node ba bx bb) + 1 < ht a) (h : ht a + 1 < ht (.node ba bx bb)) : around a x (.node ba bx bb) = turned (around a x ba) bx bb := by
  unfold around
  rw [aroundF_eq _ (sz a + sz ba + (sz bb + 1)) _ _ _ (Nat.le_refl _) (by simp [sz]; omega), show sz a + sz ba + (sz bb + 1) = (sz a + sz ba + sz bb) + 1 by omega]
  simp only [aroundF]
  rw [if_neg h0, if_pos h]
  show turned (aroundF _ a x ba) bx bb = _
  rw [aroundF_eq _ (sz a + sz ba) _ _ _ (by omega) (Nat.le_refl _)]
theorem around_mid {a : Tr α} {x : α} {b : Tr α} (h0 : ¬ ht b + 1 < ht a) (h1 : ¬ ht a + 1 < ht b) : around a x b = .node a x b := by
  unfold around
  rw [aroundF_eq _ (sz a + sz b + 1) _ _ _ (Nat.le_refl _) (by omega)]
  simp only [aroundF]
  rw [if_neg h0, if_neg h1]
theorem ls_around (a : Tr α) (x : α) (b : Tr α) : ls (around a x b) = ls a ++ x :: ls b := by
  generalize hn : sz a + sz b = n
  induction n using Nat.strongRecOn generalizing a b with
  | _ n ih =>
    by_cases h0 : ht b + 1 < ht a
    · cases a with
      | nil => simp [ht] at h0
      | node aa ax ab =>
        rw [around_left h0, ls_turned, ih (sz ab + sz b) (by simp [sz] at hn; omega) _ _ rfl]
        simp [ls]
    · by_cases h1 : ht a + 1 < ht b
      · cases b with
        | nil => simp [ht] at h1
        | node ba bx bb =>
          rw [around_right h0 h1, ls_turned, ih (sz a + sz ba) (by simp [sz] at hn; omega) _ _ rfl]
          simp [ls]
      · rw [around_mid h0 h1]; rfl
theorem sz_around (a : Tr α) (x : α) (b : Tr α) : sz (around a x b) = sz a + 1 + sz b := by
  rw [← len_ls, ls_around]; simp [len_ls]; try omega

def split : Tr α → Int → Tr α × Tr α
  | .nil, _ => (.nil, .nil)
  | .node a x b, at_ =>
    if at_ ≤ 0 then (.nil, .node a x b)
    else if (sz (.node a x b) : Int) ≤ at_ then (.node a x b, .nil)
    else if at_ ≤ (sz a : Int) then ((split a at_).1, around (split a at_).2 x b)
    else (around a x (split b (at_ - sz a - 1)).1, (split b (at_ - sz a - 1)).2)
theorem ls_split (t : Tr α) (i : Int) : ls (split t i).1 = (ls t).take i.toNat ∧ ls (split t i).2 = (ls t).drop i.toNat := by
  induction t generalizing i with
  | nil => simp [split, ls]
  | node a x b iha ihb =>
    rw [split]
    split
    · rename_i h
      have : i.toNat = 0 := by omega
      simp [this, ls]
    · split
      · rename_i h h2
        have : (ls (.node a x b)).length ≤ i.toNat := by rw [len_ls]; omega
        rw [List.take_of_length_le this, List.drop_of_length_le this]
        exact ⟨rfl, rfl⟩
      · split
        · rename_i h h2 h3
          obtain ⟨e1, e2⟩ := iha i
          have hl : i.toNat ≤ (ls a).length := by rw [len_ls]; omega
          refine ⟨?_, ?_⟩
          · simp only [e1, ls]
            rw [List.take_append_of_le_length hl]
          · simp only [ls_around, e2, ls]
            rw [List.drop_append_of_le_length hl]
        · rename_i h h2 h3
          obtain ⟨e1, e2⟩ := ihb (i - sz a - 1)
          have hl := len_ls a
          have e3 : i.toNat = (ls a).length + ((i - sz a - 1).toNat + 1) := by omega
          refine ⟨?_, ?_⟩
          · simp only [ls_around, e1, ls, e3, List.take_length_add_append, List.take_succ_cons]
          · simp only [e2, ls, e3, List.drop_length_add_append, List.drop_succ_cons]

def atT : Tr α → Nat → Option α
  | .nil, _ => none
  | .node a x b, i => if i < sz a then atT a i else if i = sz a then some x else atT b (i - sz a - 1)
theorem atT_ls (t : Tr α) (i : Nat) : atT t i = (ls t)[i]? := by
  induction t generalizing i with
  | nil => simp [atT, ls]
  | node a x b iha ihb =>
    simp only [atT, ls]
    have hl := len_ls a
    split
    · rw [List.getElem?_append_left (by omega)]; exact iha i
    · split
      · rename_i h1 h2
        rw [List.getElem?_append_right (by omega), h2, hl]; simp
      · rw [List.getElem?_append_right (by omega), hl, show i - sz a = (i - sz a - 1) + 1 by omega, List.getElem?_cons_succ]
        exact ihb _
/-- The things of a, and then those of b. -/
def join (a b : Tr α) : Tr α :=
  match atT b 0 with
  | none => a
  | some x => around a x (split b 1).2
theorem ls_join (a b : Tr α) : ls (join a b) = ls a ++ ls b := by
  unfold join
  rw [atT_ls]
  cases h : (ls b)[0]? with
  | none => 
    have : ls b = [] := by cases hb : ls b with
      | nil => rfl
      | cons x l => rw [hb] at h; simp at h
    simp [this]
  | some x =>
    simp only [ls_around, (ls_split b 1).2]
    cases hb : ls b with
    | nil => rw [hb] at h; simp at h
    | cons y l => rw [hb] at h; simp at h; simp [h]

def ofF : Nat → List α → Tr α
  | 0, _ => .nil
  | n + 1, l =>
    match l[l.length / 2]? with
    | none => .nil
    | some x => .node (ofF n (l.take (l.length / 2))) x (ofF n (l.drop (l.length / 2 + 1)))
theorem ofF_eq (n m : Nat) (l : List α) (hn : l.length ≤ n) (hm : l.length ≤ m) : ofF n l = ofF m l := by
  induction n generalizing m l with
  | zero =>
    have : l = [] := List.eq_nil_of_length_eq_zero (by omega)
    subst this
    cases m <;> simp [ofF]
  | succ n ih =>
    cases m with
    | zero =>
      have : l = [] := List.eq_nil_of_length_eq_zero (by omega)
      subst this
      simp [ofF]
    | succ m =>
      simp only [ofF]
      split
      · rfl
      · rename_i x hx
        have hl : l.length / 2 < l.length := (List.getElem?_eq_some_iff.1 hx).1
        rw [ih m _ (by simp; omega) (by simp; omega), ih m (l.drop _) (by simp; omega) (by simp; omega)]
def ofL (l : List α) : Tr α := ofF l.length l
theorem ofL_node {l : List α} (h : 0 < l.length) : ofL l = .node (ofL (l.take (l.length / 2))) (l[l.length / 2]'(by omega)) (ofL (l.drop (l.length / 2 + 1))) := by
  unfold ofL
  rw [ofF_eq l.length (l.length + 1) l (Nat.le_refl _) (by omega), ofF, List.getElem?_eq_getElem (by omega)]
  simp only []
  rw [ofF_eq l.length _ _ (by simp; omega) (Nat.le_refl _), ofF_eq l.length _ (l.drop _) (by simp) (Nat.le_refl _)]
theorem ls_ofL (l : List α) : ls (ofL l) = l := by
  generalize hn : l.length = n
  induction n using Nat.strongRecOn generalizing l with
  | _ n ih =>
    by_cases h : 0 < l.length
    · rw [ofL_node h]
      simp only [ls]
      rw [ih (l.length / 2) (by omega) _ (by simp; try omega), ih (l.length - (l.length / 2 + 1)) (by omega) _ (by simp)]
      rw [← List.drop_eq_getElem_cons (by omega), List.take_append_drop]
    · have : l = [] := List.eq_nil_of_length_eq_zero (by omega)
      subst this
      rfl
end Sq

set_option linter.unusedVariables false
namespace Sq
variable {α : Type}

/-- The heights of both sides differ by at most 1, everywhere. -/
def Bal : Tr α → Prop
  | .nil => True
  | .node a _ b => Bal a ∧ Bal b ∧ ht a ≤ ht b + 1 ∧ ht b ≤ ht a + 1
theorem bal_turned (a : Tr α) (x : α) (b : Tr α) (ha : Bal a) (hb : Bal b) (h1 : ht a ≤ ht b + 2) (h2 : ht b ≤ ht a + 2) :
    Bal (turned a x b) ∧ max (ht a) (ht b) ≤ ht (turned a x b) ∧ ht (turned a x b) ≤ max (ht a) (ht b) + 1 ∧ (ht a ≤ ht b + 1 → ht b ≤ ht a + 1 → ht (turned a x b) = max (ht a) (ht b) + 1) := by
  by_cases c1 : ht b + 1 < ht a
  · cases a with
    | nil => simp [ht] at c1
    | node aa ax ab =>
      obtain ⟨b1, b2, b3, b4⟩ := ha
      by_cases c2 : ht ab ≤ ht aa
      · rw [turned_l1 c1 c2]
        simp only [ht, Bal] at *
        refine ⟨⟨b1, ⟨b2, hb, by omega, by omega⟩, by omega, by omega⟩, by omega, by omega, by omega⟩
      · cases ab with
        | nil => simp [ht] at c2
        | node ta tx tb =>
          rw [turned_l2 c1 c2]
          obtain ⟨e1, e2, e3, e4⟩ := b2
          simp only [ht, Bal] at *
          refine ⟨⟨⟨b1, e1, by omega, by omega⟩, ⟨e2, hb, by omega, by omega⟩, by omega, by omega⟩, by omega, by omega, by omega⟩
  · by_cases c2 : ht a + 1 < ht b
    · cases b with
      | nil => simp [ht] at c2
      | node ba bx bb =>
        obtain ⟨b1, b2, b3, b4⟩ := hb
        by_cases c3 : ht ba ≤ ht bb
        · rw [turned_r1 c1 c2 c3]
          simp only [ht, Bal] at *
          refine ⟨⟨⟨ha, b1, by omega, by omega⟩, b2, by omega, by omega⟩, by omega, by omega, by omega⟩
        · cases ba with
          | nil => simp [ht] at c3
          | node ta tx tb =>
            rw [turned_r2 c1 c2 c3]
            obtain ⟨e1, e2, e3, e4⟩ := b1
            simp only [ht, Bal] at *
            refine ⟨⟨⟨ha, e1, by omega, by omega⟩, ⟨e2, b2, by omega, by omega⟩, by omega, by omega⟩, by omega, by omega, by omega⟩
    · rw [turned_c c1 c2]
      simp only [ht, Bal] at *
      refine ⟨⟨ha, hb, by omega, by omega⟩, by omega, ?_, ?_⟩
      all_goals first | trivial | omega | (intros; trivial)
theorem bal_around (a : Tr α) (x : α) (b : Tr α) (ha : Bal a) (hb : Bal b) :
    Bal (around a x b) ∧ max (ht a) (ht b) ≤ ht (around a x b) ∧ ht (around a x b) ≤ max (ht a) (ht b) + 1 := by
  generalize hn : sz a + sz b = n
  induction n using Nat.strongRecOn generalizing a b with
  | _ n ih =>
    by_cases h0 : ht b + 1 < ht a
    · cases a with
      | nil => simp [ht] at h0
      | node aa ax ab =>
        obtain ⟨b1, b2, b3, b4⟩ := ha
        obtain ⟨r1, r2, r3⟩ := ih (sz ab + sz b) (by simp [sz] at hn; omega) ab b b2 hb rfl
        rw [around_left h0]
        generalize around ab x b = r at *
        simp only [ht] at h0
        obtain ⟨t1, t2, t3, t4⟩ := bal_turned aa ax r b1 r1 (by omega) (by omega)
        refine ⟨t1, ?_, ?_⟩
        · simp only [ht]
          by_cases hd : ht r ≤ ht aa + 1
          · have := t4 (by omega) hd; omega
          · omega
        · simp only [ht]; omega
    · by_cases h1 : ht a + 1 < ht b
      · cases b with
        | nil => simp [ht] at h1
        | node ba bx bb =>
          obtain ⟨b1, b2, b3, b4⟩ := hb
          obtain ⟨r1, r2, r3⟩ := ih (sz a + sz ba) (by simp [sz] at hn; omega) a ba ha b1 rfl
          rw [around_right h0 h1]
          generalize around a x ba = r at *
          simp only [ht] at h1
          obtain ⟨t1, t2, t3, t4⟩ := bal_turned r bx bb r1 b2 (by omega) (by omega)
          refine ⟨t1, ?_, ?_⟩
          · simp only [ht]
            by_cases hd : ht r ≤ ht bb + 1
            · have := t4 hd (by omega); omega
            · omega
          · simp only [ht]; omega
      · rw [around_mid h0 h1]
        simp only [ht, Bal]
        exact ⟨⟨ha, hb, by omega, by omega⟩, by omega, by omega⟩
theorem bal_split (t : Tr α) (i : Int) (h : Bal t) : Bal (split t i).1 ∧ Bal (split t i).2 := by
  induction t generalizing i with
  | nil => exact ⟨trivial, trivial⟩
  | node a x b iha ihb =>
    rw [split]
    split
    · exact ⟨trivial, h⟩
    · split
      · exact ⟨h, trivial⟩
      · obtain ⟨b1, b2, b3, b4⟩ := h
        split
        · exact ⟨(iha i b1).1, (bal_around _ _ _ (iha i b1).2 b2).1⟩
        · exact ⟨(bal_around _ _ _ b1 (ihb _ b2).1).1, (ihb _ b2).2⟩
theorem bal_join (a b : Tr α) (ha : Bal a) (hb : Bal b) : Bal (join a b) := by
  unfold join
  split
  · exact ha
  · exact (bal_around _ _ _ ha (bal_split b 1 hb).2).1
/-- How many things a sequence of this height has at least, and one. -/
def mn : Nat → Nat
  | 0 => 1
  | 1 => 2
  | h + 2 => mn (h + 1) + mn h
theorem mn_mono (h : Nat) : mn h ≤ mn (h + 1) ∧ 3 * mn h ≤ 2 * mn (h + 1) ∧ 3 * mn (h + 1) ≤ 2 * mn (h + 2) ∧ 0 < mn h := by
  induction h with
  | zero => decide
  | succ h ih =>
    have e : mn (h + 1 + 2) = mn (h + 2) + mn (h + 1) := rfl
    have e2 : mn (h + 1 + 1) = mn (h + 1) + mn h := rfl
    have e3 : mn (h + 2) = mn (h + 1) + mn h := rfl
    omega
theorem mn_le {a b : Nat} (h : a ≤ b) : mn a ≤ mn b := by
  induction b with
  | zero => have : a = 0 := by omega
            subst this; exact Nat.le_refl _
  | succ b ih =>
    rcases Nat.lt_or_ge b a with h1 | h1
    · have : a = b + 1 := by omega
      subst this; exact Nat.le_refl _
    · exact Nat.le_trans (ih h1) (mn_mono b).1
theorem mn_sz (t : Tr α) (h : Bal t) : mn (ht t) ≤ sz t + 1 := by
  induction t with
  | nil => exact Nat.le_refl _
  | node a x b iha ihb =>
    obtain ⟨b1, b2, b3, b4⟩ := h
    have ha := iha b1
    have hb := ihb b2
    simp only [ht, sz]
    rcases Nat.lt_trichotomy (ht a) (ht b) with h1 | h1 | h1
    · have e : ht b = ht a + 1 := by omega
      rw [e, Nat.max_eq_right (by omega)]
      have : mn (ht a + 1 + 1) = mn (ht a + 1) + mn (ht a) := rfl
      rw [e] at hb; omega
    · rw [h1, Nat.max_self]
      rw [h1] at ha
      cases hh : ht b with
      | zero => show 2 ≤ _; omega
      | succ k =>
        have e : mn (k + 1 + 1) = mn (k + 1) + mn k := rfl
        have := (mn_mono k).1
        rw [hh] at ha hb; omega
    · have e : ht a = ht b + 1 := by omega
      rw [e, Nat.max_eq_left (by omega)]
      have : mn (ht b + 1 + 1) = mn (ht b + 1) + mn (ht b) := rfl
      rw [e] at ha; omega
theorem mn_pow (L : Nat) : ∀ h, 3 * L + 2 ≤ 2 * h → 2 ^ L + 1 ≤ mn h := by
  have key : ∀ L, (∀ h, 3 * L + 2 ≤ 2 * h → 2 ^ L + 1 ≤ mn h) ∧ (∀ h, 3 * (L + 1) + 2 ≤ 2 * h → 2 ^ (L + 1) + 1 ≤ mn h) := by
    intro L
    induction L with
    | zero =>
      refine ⟨fun h hh => ?_, fun h hh => ?_⟩
      · have := mn_le (a := 1) (b := h) (by omega); exact this
      · have := mn_le (a := 3) (b := h) (by omega)
        have e : mn 3 = 5 := rfl
        omega
    | succ L ih =>
      refine ⟨ih.2, fun h hh => ?_⟩
      obtain ⟨k, rfl⟩ : ∃ k, h = k + 3 := ⟨h - 3, by omega⟩
      have h1 := ih.1 k (by omega)
      have e1 : mn (k + 3) = mn (k + 2) + mn (k + 1) := rfl
      have e2 : mn (k + 2) = mn (k + 1) + mn k := rfl
      have h2 := mn_mono k
      have e3 : 2 ^ (L + 1 + 1) = 4 * 2 ^ L := by rw [Nat.pow_succ, Nat.pow_succ]; omega
      omega
  exact (key L).1
/-- A sequence that stands well is not high. -/
theorem bal_low (t : Tr α) (h : Bal t) (L : Nat) (hL : sz t < 2 ^ L) : 2 * ht t ≤ 3 * L + 1 := by
  rcases Nat.lt_or_ge (3 * L + 1) (2 * ht t) with h1 | h1
  · have := mn_pow L (ht t) (by omega)
    have := mn_sz t h
    omega
  · exact h1
theorem bal_one (x : α) : Bal (ofL [x]) := by
  have e : ofL [x] = .node .nil x .nil := by simp [ofL, ofF]
  rw [e]
  exact ⟨trivial, trivial, Nat.zero_le _, Nat.zero_le _⟩
/-- What grows one by one. -/
def grow (front : Bool) : Nat → Tr Int
  | 0 => .nil
  | n + 1 => if front then join (ofL [(n : Int)]) (grow front n) else join (grow front n) (ofL [(n : Int)])
theorem bal_grow (f : Bool) (n : Nat) : Bal (grow f n) := by
  induction n with
  | zero => trivial
  | succ n ih => cases f
                 · exact bal_join _ _ ih (bal_one _)
                 · exact bal_join _ _ (bal_one _) ih
theorem ls_grow_f (n : Nat) : ls (grow true (n + 1)) = (n : Int) :: ls (grow true n) := by
  show ls (join (ofL [(n : Int)]) (grow true n)) = _
  rw [ls_join, ls_ofL]; rfl
theorem ls_grow_b (n : Nat) : ls (grow false (n + 1)) = ls (grow false n) ++ [(n : Int)] := by
  show ls (join (grow false n) (ofL [(n : Int)])) = _
  rw [ls_join, ls_ofL]
theorem sz_grow (f : Bool) (n : Nat) : sz (grow f n) = n := by
  rw [← len_ls]
  induction n with
  | zero => rfl
  | succ n ih => cases f
                 · rw [ls_grow_b]; simp [ih]
                 · rw [ls_grow_f]; simp [ih]
theorem first_b (n : Nat) (h : 0 < n) : (ls (grow false n))[0]? = some 0 := by
  induction n with
  | zero => omega
  | succ n ih =>
    rw [ls_grow_b]
    cases n with
    | zero => rfl
    | succ n =>
      have := ih (by omega)
      rw [List.getElem?_append_left (by rw [len_ls, sz_grow]; omega)]; exact this
theorem first_f (n : Nat) : (ls (grow true (n + 1)))[0]? = some (n : Int) := by rw [ls_grow_f]; rfl
end Sq

set_option linter.unusedVariables false
namespace Dc

/-- Pairs by rising keys. -/
def Srt (l : List (Int × Int)) : Prop := l.Pairwise fun a b => a.1 < b.1
def less (l : List (Int × Int)) (k : Int) : Nat := (l.filter fun e => decide (e.1 < k)).length
def get (l : List (Int × Int)) (k : Int) : Option Int := (l.find? fun e => e.1 == k).map (·.2)
def put (l : List (Int × Int)) (k n : Int) : List (Int × Int) := (l.filter fun e => decide (e.1 < k)) ++ (k, n) :: (l.filter fun e => decide (k < e.1))
def del (l : List (Int × Int)) (k : Int) : List (Int × Int) := l.filter fun e => e.1 != k

theorem less_le (l : List (Int × Int)) (k : Int) : less l k ≤ l.length := List.length_filter_le _ _
theorem srt_cons {e : Int × Int} {l : List (Int × Int)} (h : Srt (e :: l)) : (∀ x ∈ l, e.1 < x.1) ∧ Srt l := List.pairwise_cons.1 h
theorem filter_none {l : List (Int × Int)} {p : Int × Int → Bool} (h : ∀ x ∈ l, p x = false) : l.filter p = [] := by
  rw [List.filter_eq_nil_iff]; intro a ha; simp [h a ha]
theorem filter_all {l : List (Int × Int)} {p : Int × Int → Bool} (h : ∀ x ∈ l, p x = true) : l.filter p = l := List.filter_eq_self.2 h
theorem take_less (l : List (Int × Int)) (k : Int) (h : Srt l) : l.take (less l k) = l.filter (fun e => decide (e.1 < k)) ∧ l.drop (less l k) = l.filter (fun e => decide (k ≤ e.1)) := by
  induction l with
  | nil => simp [less]
  | cons e l ih =>
    obtain ⟨h1, h2⟩ := srt_cons h
    by_cases c : e.1 < k
    · have e1 : less (e :: l) k = less l k + 1 := by simp [less, c]
      have e2 : ¬ k ≤ e.1 := by omega
      rw [e1, List.take_succ_cons, List.drop_succ_cons, (ih h2).1, (ih h2).2]
      simp [c, e2]
    · have e1 : less (e :: l) k = 0 := by
        unfold less
        rw [filter_none]; rfl
        intro x hx
        rcases List.mem_cons.1 hx with rfl | hx
        · simp [c]
        · have := h1 x hx; simp; omega
      have e2 : (e :: l).filter (fun e => decide (e.1 < k)) = [] := List.eq_nil_of_length_eq_zero e1
      rw [e1, e2, filter_all]
      · simp
      · intro x hx
        rcases List.mem_cons.1 hx with rfl | hx
        · simp; omega
        · have := h1 x hx; simp; omega
/-- The key at a place is no less than k just from the place on that less tells. -/
theorem less_iff {l : List (Int × Int)} (h : Srt l) (k : Int) (i : Nat) (hi : i < l.length) : k ≤ l[i].1 ↔ less l k ≤ i := by
  have ht := take_less l k h
  constructor
  · intro hk
    rcases Nat.lt_or_ge i (less l k) with h1 | h1
    · have h2 : l[i] ∈ l.take (less l k) := by
        rw [List.mem_take_iff_getElem]; exact ⟨i, by omega, rfl⟩
      rw [ht.1] at h2
      have := (List.mem_filter.1 h2).2
      simp at this; omega
    · exact h1
  · intro hk
    have h2 : l[i] ∈ l.drop (less l k) := by
      rw [List.mem_drop_iff_getElem]; exact ⟨i - less l k, by omega, by congr 1; omega⟩
    rw [ht.2] at h2
    have := (List.mem_filter.1 h2).2
    simpa using this
theorem get_none {l : List (Int × Int)} {k : Int} : get l k = none ↔ ∀ e ∈ l, e.1 ≠ k := by
  unfold get; simp
theorem get_some {l : List (Int × Int)} (h : Srt l) {k n : Int} : get l k = some n ↔ (k, n) ∈ l := by
  induction l with
  | nil => simp [get]
  | cons e l ih =>
    obtain ⟨h1, h2⟩ := srt_cons h
    by_cases c : e.1 = k
    · have e1 : get (e :: l) k = some e.2 := by simp [get, c]
      rw [e1]
      constructor
      · intro he; injection he with he; rw [← he, ← c]; exact List.mem_cons_self ..
      · intro he
        rcases List.mem_cons.1 he with he | he
        · rw [← he]
        · have := h1 _ he; simp at this; omega
    · have e1 : get (e :: l) k = get l k := by simp [get, c]
      rw [e1, ih h2]
      constructor
      · intro he; exact List.mem_cons_of_mem _ he
      · intro he
        rcases List.mem_cons.1 he with he | he
        · rw [← he] at c; exact absurd rfl c
        · exact he
theorem srt_filter {l : List (Int × Int)} (h : Srt l) (p : Int × Int → Bool) : Srt (l.filter p) := List.Pairwise.filter _ h
theorem srt_put {l : List (Int × Int)} (h : Srt l) (k n : Int) : Srt (put l k n) := by
  unfold put Srt
  rw [List.pairwise_append]
  refine ⟨srt_filter h _, List.pairwise_cons.2 ⟨fun x hx => ?_, srt_filter h _⟩, fun a ha b hb => ?_⟩
  · simpa using (List.mem_filter.1 hx).2
  · have h1 := (List.mem_filter.1 ha).2
    rcases List.mem_cons.1 hb with rfl | hb
    · simpa using h1
    · have h2 := (List.mem_filter.1 hb).2
      simp at h1 h2; omega
theorem srt_del {l : List (Int × Int)} (h : Srt l) (k : Int) : Srt (del l k) := srt_filter h _
theorem mem_put {l : List (Int × Int)} {k n : Int} {e : Int × Int} : e ∈ put l k n ↔ e = (k, n) ∨ (e ∈ l ∧ e.1 ≠ k) := by
  unfold put
  rw [List.mem_append, List.mem_cons, List.mem_filter, List.mem_filter]
  simp only [decide_eq_true_eq]
  constructor
  · rintro (⟨h1, h2⟩ | h | ⟨h1, h2⟩)
    · exact .inr ⟨h1, by omega⟩
    · exact .inl h
    · exact .inr ⟨h1, by omega⟩
  · rintro (h | ⟨h1, h2⟩)
    · exact .inr (.inl h)
    · rcases Int.lt_trichotomy e.1 k with h3 | h3 | h3
      · exact .inl ⟨h1, h3⟩
      · exact absurd h3 h2
      · exact .inr (.inr ⟨h1, h3⟩)
theorem mem_del {l : List (Int × Int)} {k : Int} {e : Int × Int} : e ∈ del l k ↔ e ∈ l ∧ e.1 ≠ k := by
  unfold del; rw [List.mem_filter]; simp
/-- Sorted lists with the same pairs are the same. -/
theorem srt_ext {l m : List (Int × Int)} (h : Srt l) (h' : Srt m) (he : ∀ e, e ∈ l ↔ e ∈ m) : l = m := by
  induction l generalizing m with
  | nil =>
    cases m with
    | nil => rfl
    | cons b m => exact absurd ((he b).2 (List.mem_cons_self ..)) (by simp)
  | cons a l ih =>
    cases m with
    | nil => exact absurd ((he a).1 (List.mem_cons_self ..)) (by simp)
    | cons b m =>
      obtain ⟨h1, h2⟩ := srt_cons h
      obtain ⟨h3, h4⟩ := srt_cons h'
      have hab : a = b := by
        rcases List.mem_cons.1 ((he a).1 (List.mem_cons_self ..)) with h5 | h5
        · exact h5
        · rcases List.mem_cons.1 ((he b).2 (List.mem_cons_self ..)) with h6 | h6
          · exact h6.symm
          · have := h3 a h5; have := h1 b h6; omega
      subst hab
      congr 1
      refine ih h2 h4 fun e => ⟨fun hm => ?_, fun hm => ?_⟩
      · rcases List.mem_cons.1 ((he e).1 (List.mem_cons_of_mem _ hm)) with h5 | h5
        · have := h1 e hm; rw [h5] at this; omega
        · exact h5
      · rcases List.mem_cons.1 ((he e).2 (List.mem_cons_of_mem _ hm)) with h5 | h5
        · have := h3 e hm; rw [h5] at this; omega
        · exact h5
theorem get_put_same {l : List (Int × Int)} (h : Srt l) (k n : Int) : get (put l k n) k = some n := (get_some (srt_put h k n)).2 (mem_put.2 (.inl rfl))
theorem get_ext {l m : List (Int × Int)} (h : Srt l) (h' : Srt m) {k : Int} (he : ∀ n, (k, n) ∈ l ↔ (k, n) ∈ m) : get l k = get m k := by
  cases hm : get m k with
  | some n => rw [get_some h, he, ← get_some h', hm]
  | none =>
    cases hl : get l k with
    | none => rfl
    | some n => rw [get_some h, he, ← get_some h'] at hl; rw [hl] at hm; cases hm
theorem get_put_other {l : List (Int × Int)} (h : Srt l) (k n j : Int) (hj : j ≠ k) : get (put l k n) j = get l j :=
  get_ext (srt_put h k n) h fun m => by rw [mem_put]; simp [hj]
theorem get_del_same (l : List (Int × Int)) (k : Int) : get (del l k) k = none := get_none.2 fun e he => (mem_del.1 he).2
theorem get_del_other {l : List (Int × Int)} (h : Srt l) (k j : Int) (hj : j ≠ k) : get (del l k) j = get l j :=
  get_ext (srt_del h k) h fun m => by rw [mem_del]; simp [hj]
theorem del_put {l : List (Int × Int)} (h : Srt l) (k n : Int) : del (put l k n) k = del l k :=
  srt_ext (srt_del (srt_put h k n) k) (srt_del h k) fun e => by
    rw [mem_del, mem_put, mem_del]
    constructor
    · rintro ⟨h1 | h1, h2⟩
      · rw [h1] at h2; exact absurd rfl h2
      · exact h1
    · intro h1; exact ⟨.inr h1, h1.2⟩
theorem del_none {l : List (Int × Int)} {k : Int} (h : get l k = none) : del l k = l :=
  filter_all fun x hx => by have := get_none.1 h x hx; simp [this]
theorem put_put {l : List (Int × Int)} (h : Srt l) (k n m : Int) : put (put l k n) k m = put l k m :=
  srt_ext (srt_put (srt_put h k n) k m) (srt_put h k m) fun e => by
    rw [mem_put, mem_put, mem_put]
    constructor
    · rintro (h1 | ⟨h1 | h1, h2⟩)
      · exact .inl h1
      · rw [h1] at h2; exact absurd rfl h2
      · exact .inr h1
    · rintro (h1 | h1)
      · exact .inl h1
      · exact .inr ⟨.inr h1, h1.2⟩
/-! ## What the code does -/
/-- The pair at the place of key k. -/
theorem at_less {l : List (Int × Int)} (h : Srt l) (k : Int) : get l k = ((l[less l k]?).bind fun e => if e.1 = k then some e.2 else none) := by
  cases hx : l[less l k]? with
  | none =>
    rw [List.getElem?_eq_none_iff] at hx
    show _ = none
    rw [get_none]
    intro e he hk
    obtain ⟨i, hi, rfl⟩ := List.getElem_of_mem he
    have := (less_iff h k i hi).1 (by omega)
    omega
  | some e =>
    obtain ⟨hi, he⟩ := List.getElem?_eq_some_iff.1 hx
    show _ = if e.1 = k then some e.2 else none
    split
    · rename_i hk
      rw [get_some h, ← hk]
      have : l[less l k] ∈ l := List.getElem_mem hi
      rw [he] at this; exact this
    · rename_i hk
      rw [get_none]
      intro x hxm hk2
      obtain ⟨i, hi2, rfl⟩ := List.getElem_of_mem hxm
      have h1 := (less_iff h k i hi2).1 (by omega)
      rcases Nat.lt_or_ge (less l k) i with h2 | h2
      · have h3 := (List.pairwise_iff_getElem.1 h) _ _ hi hi2 h2
        have h4 := (less_iff h k _ hi).2 (Nat.le_refl _)
        rw [he] at h3 h4; omega
      · have : i = less l k := by omega
        subst this
        rw [he] at hk2; exact hk hk2
theorem drop_put {l : List (Int × Int)} (h : Srt l) (k : Int) : (if get l k = none then l.drop (less l k) else l.drop (less l k + 1)) = l.filter fun e => decide (k < e.1) := by
  have ht := (take_less l k h).2
  split
  · rename_i hn
    rw [ht]
    refine List.filter_congr fun x hx => ?_
    have := get_none.1 hn x hx
    simp; omega
  · rename_i hn
    rw [at_less h] at hn
    cases hx : l[less l k]? with
    | none => rw [hx] at hn; exact absurd rfl hn
    | some e =>
      rw [hx] at hn
      obtain ⟨hi, he⟩ := List.getElem?_eq_some_iff.1 hx
      have hk : e.1 = k := by
        apply Classical.byContradiction
        intro hk
        exact hn (by show (if e.1 = k then some e.2 else none) = none; rw [if_neg hk])
      have h1 := List.drop_eq_getElem_cons hi
      rw [he, ht] at h1
      have h2 : (l.filter fun x => decide (k ≤ x.1)).filter (fun x => decide (k < x.1)) = l.filter fun x => decide (k < x.1) := by
        rw [List.filter_filter]
        refine List.filter_congr fun x hx => ?_
        by_cases c : k < x.1
        · have : k ≤ x.1 := by omega
          simp [c, this]
        · simp [c]
      rw [h1] at h2
      have h3 : Srt (e :: l.drop (less l k + 1)) := by
        rw [← h1]; exact srt_filter h _
      have h4 := (srt_cons h3).1
      rw [List.filter_cons_of_neg (by simp; omega), filter_all] at h2
      · exact h2
      · intro x hx
        have := h4 x hx
        simp; omega
/-- What Put makes. -/
theorem put_code {l : List (Int × Int)} (h : Srt l) (k n : Int) : l.take (less l k) ++ (k, n) :: (if get l k = none then l.drop (less l k) else l.drop (less l k + 1)) = put l k n := by
  rw [drop_put h, (take_less l k h).1]; rfl
/-- What Delete makes. -/
theorem del_code {l : List (Int × Int)} (h : Srt l) (k : Int) (hk : get l k ≠ none) : l.take (less l k) ++ l.drop (less l k + 1) = del l k := by
  have h1 := drop_put h k
  rw [if_neg hk] at h1
  rw [h1, (take_less l k h).1]
  refine srt_ext ?_ (srt_del h k) fun e => ?_
  · unfold Srt; rw [List.pairwise_append]
    refine ⟨srt_filter h _, srt_filter h _, fun a ha b hb => ?_⟩
    have h1 := (List.mem_filter.1 ha).2
    have h2 := (List.mem_filter.1 hb).2
    simp at h1 h2; omega
  · rw [mem_del, List.mem_append, List.mem_filter, List.mem_filter]
    simp only [decide_eq_true_eq]
    constructor
    · rintro (⟨h1, h2⟩ | ⟨h1, h2⟩)
      · exact ⟨h1, by omega⟩
      · exact ⟨h1, by omega⟩
    · rintro ⟨h1, h2⟩
      rcases Int.lt_trichotomy e.1 k with h3 | h3 | h3
      · exact .inl ⟨h1, h3⟩
      · exact absurd h3 h2
      · exact .inr ⟨h1, h3⟩
theorem less_mono (l : List (Int × Int)) (a b : Int) (h : a ≤ b) : less l a ≤ less l b := by
  unfold less
  induction l with
  | nil => simp
  | cons e l ih =>
    by_cases c : e.1 < a
    · have : e.1 < b := by omega
      simp [c, this]; exact ih
    · by_cases c2 : e.1 < b
      · simp [c, c2]; omega
      · simp [c, c2]; exact ih
theorem less_zero {l : List (Int × Int)} (h : ∀ e ∈ l, 0 ≤ e.1) : less l 0 = 0 := by
  unfold less
  rw [filter_none]; rfl
  intro x hx; have := h x hx; simp; omega
theorem less_at {l : List (Int × Int)} (h : Srt l) (i : Nat) (hi : i < l.length) : less l l[i].1 = i := by
  have h1 := (less_iff h l[i].1 i hi).1 (Int.le_refl _)
  rcases Nat.lt_or_ge (less l l[i].1) i with h2 | h2
  · have h3 := (less_iff h l[i].1 (less l l[i].1) (by omega)).2 (Nat.le_refl _)
    have h4 := (List.pairwise_iff_getElem.1 h) _ _ (by omega) hi h2
    omega
  · omega
theorem len_put_new {l : List (Int × Int)} (h : Srt l) (k n : Int) (hk : get l k = none) : (put l k n).length = l.length + 1 := by
  rw [← put_code h, if_pos hk]
  simp
  have := less_le l k; omega
theorem len_put_le {l : List (Int × Int)} (h : Srt l) (k n : Int) : (put l k n).length ≤ l.length + 1 := by
  rw [← put_code h]
  have := less_le l k
  split <;> simp <;> omega
theorem len_del_le (l : List (Int × Int)) (k : Int) : (del l k).length ≤ l.length := List.length_filter_le _ _
end Dc

set_option linter.unusedVariables false
namespace Dc

/-- The keys put in the order in which js names them, each with its place. -/
def putAll (ks : Nat → Int) (js : List Nat) : List (Int × Int) := js.foldl (fun l j => put l (ks j) (j : Int)) []
theorem putAll_snoc (ks : Nat → Int) (js : List Nat) (j : Nat) : putAll ks (js ++ [j]) = put (putAll ks js) (ks j) (j : Int) := by
  unfold putAll; rw [List.foldl_append]; rfl
theorem srt_putAll (ks : Nat → Int) (js : List Nat) : Srt (putAll ks js) := by
  unfold putAll
  have key : ∀ (js : List Nat) (l : List (Int × Int)), Srt l → Srt (js.foldl (fun l j => put l (ks j) (j : Int)) l) := by
    intro js
    induction js with
    | nil => intro l h; exact h
    | cons j js ih => intro l h; exact ih _ (srt_put h _ _)
  exact key js [] List.Pairwise.nil
theorem mem_putAll_sub (ks : Nat → Int) (js : List Nat) (e : Int × Int) (h : e ∈ putAll ks js) : ∃ j ∈ js, e = (ks j, (j : Int)) := by
  have key : ∀ (js : List Nat) (l : List (Int × Int)), e ∈ js.foldl (fun l j => put l (ks j) (j : Int)) l → e ∈ l ∨ ∃ j ∈ js, e = (ks j, (j : Int)) := by
    intro js
    induction js with
    | nil => intro l h; exact .inl h
    | cons j js ih =>
      intro l h
      rcases ih _ h with h | ⟨i, hi, he⟩
      · rcases mem_put.1 h with h | h
        · exact .inr ⟨j, List.mem_cons_self .., h⟩
        · exact .inl h.1
      · exact .inr ⟨i, List.mem_cons_of_mem _ hi, he⟩
  rcases key js [] h with h | h
  · cases h
  · exact h
/-- If no key comes twice, all pairs are there. -/
theorem mem_putAll (ks : Nat → Int) (n : Nat) (hk : ∀ i j, i < n → j < n → ks i = ks j → i = j) (js : List Nat) (hj : ∀ j ∈ js, j < n) (e : Int × Int) :
    e ∈ putAll ks js ↔ ∃ j ∈ js, e = (ks j, (j : Int)) := by
  refine ⟨mem_putAll_sub ks js e, ?_⟩
  have key : ∀ (js : List Nat) (l : List (Int × Int)), (∀ j ∈ js, j < n) → ((∃ j ∈ js, e = (ks j, (j : Int))) ∨ ((∃ j, j < n ∧ e = (ks j, (j : Int))) ∧ e ∈ l)) → e ∈ js.foldl (fun l j => put l (ks j) (j : Int)) l := by
    intro js
    induction js with
    | nil => 
      rintro l _ (⟨j, hj, _⟩ | h)
      · cases hj
      · exact h.2
    | cons j js ih =>
      intro l hlt h
      refine ih _ (fun i hi => hlt i (List.mem_cons_of_mem _ hi)) ?_
      have hjn := hlt j (List.mem_cons_self ..)
      rcases h with ⟨i, hi, he⟩ | ⟨⟨i, hi, he⟩, hm⟩
      · rcases List.mem_cons.1 hi with rfl | hi
        · exact .inr ⟨⟨i, hjn, he⟩, mem_put.2 (.inl he)⟩
        · exact .inl ⟨i, hi, he⟩
      · refine .inr ⟨⟨i, hi, he⟩, mem_put.2 ?_⟩
        by_cases hij : ks i = ks j
        · have := hk i j hi hjn hij
          subst this
          exact .inl he
        · refine .inr ⟨hm, ?_⟩
          rw [he]; exact hij
  intro h
  exact key js [] hj (.inl h)
/-- Two orders of the same keys make the same. -/
theorem putAll_same (ks : Nat → Int) (n : Nat) (hk : ∀ i j, i < n → j < n → ks i = ks j → i = j) (js ms : List Nat) (hj : ∀ j, j ∈ js ↔ j < n) (hm : ∀ j, j ∈ ms ↔ j < n) : putAll ks js = putAll ks ms :=
  srt_ext (srt_putAll ks js) (srt_putAll ks ms) fun e => by
    rw [mem_putAll ks n hk js (fun j h => (hj j).1 h), mem_putAll ks n hk ms (fun j h => (hm j).1 h)]
    constructor
    · rintro ⟨j, h, he⟩; exact ⟨j, (hm j).2 ((hj j).1 h), he⟩
    · rintro ⟨j, h, he⟩; exact ⟨j, (hj j).2 ((hm j).1 h), he⟩
theorem len_putAll (ks : Nat → Int) (n : Nat) (hk : ∀ i j, i < n → j < n → ks i = ks j → i = j) (m : Nat) (hm : m ≤ n) : (putAll ks (List.range m)).length = m := by
  induction m with
  | zero => rfl
  | succ m ih =>
    rw [List.range_succ, putAll_snoc, len_put_new (srt_putAll ks _) _ _ ?_, ih (by omega)]
    rw [get_none]
    intro e he
    obtain ⟨j, hj, rfl⟩ := mem_putAll_sub ks _ e he
    have hj' := List.mem_range.1 hj
    intro h
    have := hk j m (by omega) (by omega) h
    omega
/-- The other order's places. -/
def turn (n by_ i : Nat) : Nat := (n - i + by_) % n
theorem turn_all (n by_ : Nat) (j : Nat) (hj : j < n) : ∃ i, i < n ∧ turn n by_ i = j := by
  have hb := Nat.mod_lt by_ (show 0 < n by omega)
  have hdb := Nat.div_add_mod by_ n
  have key : ∀ i, i ≤ n → (n - i + by_ % n) % n = turn n by_ i := fun i hi => by unfold turn; rw [Nat.add_mod_mod]
  rcases Nat.lt_or_ge (by_ % n) j with h | h
  · refine ⟨n - (j - by_ % n), by omega, ?_⟩
    rw [← key _ (by omega), show n - (n - (j - by_ % n)) + by_ % n = j by omega, Nat.mod_eq_of_lt hj]
  · refine ⟨by_ % n - j, by omega, ?_⟩
    rw [← key _ (by omega), show n - (by_ % n - j) + by_ % n = j + n by omega, Nat.add_mod_right, Nat.mod_eq_of_lt hj]
theorem turn_lt (n by_ i : Nat) (h : 0 < n) : turn n by_ i < n := Nat.mod_lt _ h
theorem turn_mem (n by_ : Nat) (j : Nat) : j ∈ (List.range n).map (turn n by_) ↔ j < n := by
  rw [List.mem_map]
  constructor
  · rintro ⟨i, hi, rfl⟩
    have := List.mem_range.1 hi
    exact turn_lt _ _ _ (by omega)
  · intro h
    obtain ⟨i, hi, he⟩ := turn_all n by_ j h
    exact ⟨i, List.mem_range.2 hi, he⟩
theorem order_same (ks : Nat → Int) (n by_ : Nat) (hk : ∀ i j, i < n → j < n → ks i = ks j → i = j) : putAll ks (List.range n) = putAll ks ((List.range n).map (turn n by_)) :=
  putAll_same ks n hk _ _ (fun j => List.mem_range) (turn_mem n by_)
end Dc

set_option linter.unusedVariables false
namespace Dc

/-- What the document's Put has behind the pairs l: whether the pair is in, and the list. -/
def rdone (l : List (Int × Int)) (k : Int) : Bool := l.any fun e => decide (k ≤ e.1)
def rout (l : List (Int × Int)) (k n : Int) : List (Int × Int) := (l.filter fun e => decide (e.1 < k)) ++ (if rdone l k then (k, n) :: (l.filter fun e => decide (k < e.1)) else [])
theorem rdone_snoc (l : List (Int × Int)) (x : Int × Int) (k : Int) : rdone (l ++ [x]) k = (rdone l k || decide (k ≤ x.1)) := by simp [rdone]
theorem rdone_false {l : List (Int × Int)} {k : Int} (h : rdone l k = false) : ∀ e ∈ l, e.1 < k := by
  intro e he
  unfold rdone at h
  rw [List.any_eq_false] at h
  have := h e he
  simp at this; exact this
theorem rput_new {l : List (Int × Int)} {x : Int × Int} {k : Int} (n : Int) (h : rdone l k = false) (hx : k ≤ x.1) :
    rdone (l ++ [x]) k = true ∧ (x.1 = k → rout (l ++ [x]) k n = rout l k n ++ [(k, n)]) ∧ (x.1 ≠ k → rout (l ++ [x]) k n = rout l k n ++ [(k, n)] ++ [x]) := by
  have hd : rdone (l ++ [x]) k = true := by rw [rdone_snoc]; simp [hx]
  have hf : l.filter (fun e => decide (k < e.1)) = [] := by
    rw [List.filter_eq_nil_iff]; intro e he; have := rdone_false h e he; simp; omega
  have hxk : ¬ x.1 < k := by omega
  refine ⟨hd, fun he => ?_, fun he => ?_⟩
  · unfold rout
    rw [hd, h]
    simp [List.filter_append, hf, he]
  · have hlt : k < x.1 := by omega
    unfold rout
    rw [hd, h]
    simp [List.filter_append, hf, hxk, hlt]
theorem rput_less {l : List (Int × Int)} {x : Int × Int} {k : Int} (n : Int) (h : rdone l k = false) (hx : x.1 < k) :
    rdone (l ++ [x]) k = false ∧ rout (l ++ [x]) k n = rout l k n ++ [x] := by
  have hnk : ¬ k ≤ x.1 := by omega
  have hd : rdone (l ++ [x]) k = false := by rw [rdone_snoc, h]; simp [hx]
  refine ⟨hd, ?_⟩
  unfold rout
  rw [hd, h]
  simp [List.filter_append, hx]
theorem rput_done {l : List (Int × Int)} {x : Int × Int} {k : Int} (n : Int) (h : rdone l k = true) (hs : Srt (l ++ [x])) :
    rdone (l ++ [x]) k = true ∧ k < x.1 ∧ rout (l ++ [x]) k n = rout l k n ++ [x] := by
  have hd : rdone (l ++ [x]) k = true := by rw [rdone_snoc, h]; rfl
  have hlt : k < x.1 := by
    unfold rdone at h
    rw [List.any_eq_true] at h
    obtain ⟨e, he, hk⟩ := h
    have := (List.pairwise_append.1 hs).2.2 e he x (by simp)
    simp at hk; omega
  have hnk : ¬ x.1 < k := by omega
  refine ⟨hd, hlt, ?_⟩
  unfold rout
  rw [hd, h]
  simp [List.filter_append, hlt, hnk]
theorem rput_end (l : List (Int × Int)) (k n : Int) : (rdone l k = true → rout l k n = put l k n) ∧ (rdone l k = false → rout l k n ++ [(k, n)] = put l k n) := by
  refine ⟨fun h => ?_, fun h => ?_⟩
  · unfold rout put; rw [h]; rfl
  · have hf : l.filter (fun e => decide (k < e.1)) = [] := by
      rw [List.filter_eq_nil_iff]; intro e he; have := rdone_false h e he; simp; omega
    unfold rout put; rw [h, hf]; simp
theorem del_snoc (l : List (Int × Int)) (x : Int × Int) (k : Int) : (x.1 = k → del (l ++ [x]) k = del l k) ∧ (x.1 ≠ k → del (l ++ [x]) k = del l k ++ [x]) := by
  unfold del
  refine ⟨fun h => ?_, fun h => ?_⟩
  · simp [List.filter_append, h]
  · simp [List.filter_append, h]
theorem less_snoc (l : List (Int × Int)) (x : Int × Int) (k : Int) : (x.1 < k → less (l ++ [x]) k = less l k + 1) ∧ (¬ x.1 < k → less (l ++ [x]) k = less l k) := by
  unfold less
  refine ⟨fun h => ?_, fun h => ?_⟩
  · simp [List.filter_append, h]
  · simp [List.filter_append, h]
theorem get_here {l : List (Int × Int)} {k : Int} {m : Nat} (h : m < l.length) (hn : ∀ j, (hj : j < m) → (l[j]'(by omega)).1 ≠ k) (hk : (l[m]).1 = k) : get l k = some (l[m]).2 := by
  unfold get
  have : l.find? (fun e => e.1 == k) = some l[m] := by
    rw [List.find?_eq_some_iff_getElem]
    refine ⟨by simp [hk], m, h, rfl, fun j hj => ?_⟩
    have := hn j hj
    simp [this]
  rw [this]; rfl
theorem get_nowhere {l : List (Int × Int)} {k : Int} (hn : ∀ j, (hj : j < l.length) → (l[j]).1 ≠ k) : get l k = none := by
  rw [get_none]
  intro e he
  obtain ⟨j, hj, rfl⟩ := List.getElem_of_mem he
  exact hn j hj
end Dc

/- Directories: slots as (used, key); the vertices by their keys. -/
set_option linter.unusedVariables false
namespace Vt
abbrev Sl := Bool × Int
/-- One slot more, behind i slots whose vertices by keys are d. -/
def kstep (o : Option (List (Int × Int))) (s : Sl × Nat) : Option (List (Int × Int)) :=
  o.bind fun d => if s.1.1 then (if (Dc.get d s.1.2).isSome then none else some (Dc.put d s.1.2 (s.2 : Int))) else if s.1.2 = 0 then some d else none
def keyed (l : List Sl) : Option (List (Int × Int)) := l.zipIdx.foldl kstep (some [])
theorem keyed_snoc (l : List Sl) (s : Sl) : keyed (l ++ [s]) = kstep (keyed l) (s, l.length) := by
  unfold keyed
  rw [List.zipIdx_append, List.foldl_append]
  simp
theorem keyed_take (l : List Sl) (j : Nat) (h : j < l.length) : keyed (l.take (j + 1)) = kstep (keyed (l.take j)) (l[j], j) := by
  rw [List.take_succ_eq_append_getElem h, keyed_snoc, List.length_take, Nat.min_eq_left (by omega)]
/-- Once it is refused it stays refused. -/
theorem fold_none (l : List (Sl × Nat)) : l.foldl kstep none = none := by
  induction l with
  | nil => rfl
  | cons a l ih => simpa [kstep] using ih
theorem keyed_none (l : List Sl) (j : Nat) (h : keyed (l.take j) = none) : keyed l = none := by
  have e : keyed l = ((l.drop j).zipIdx ((l.take j).length)).foldl kstep (keyed (l.take j)) := by
    have e2 : keyed (l.take j ++ l.drop j) = ((l.drop j).zipIdx ((l.take j).length)).foldl kstep (keyed (l.take j)) := by
      unfold keyed
      rw [List.zipIdx_append, List.foldl_append]
      simp only [Nat.zero_add]
    rw [List.take_append_drop] at e2
    exact e2
  rw [e, h, fold_none]
/-- What the vertices by keys are. -/
def Of (l : List Sl) (d : List (Int × Int)) : Prop := Dc.Srt d ∧ d.length ≤ l.length ∧ ∀ k n, (k, n) ∈ d ↔ ∃ i : Nat, n = (i : Int) ∧ l[i]? = some (true, k)
def Dir (l : List Sl) : Prop := (∀ s ∈ l, s.1 = false → s.2 = 0) ∧ ∀ (i j : Nat) (k : Int), l[i]? = some (true, k) → l[j]? = some (true, k) → i = j
theorem at_snoc (l : List Sl) (s : Sl) (i : Nat) (x : Sl) : (l ++ [s])[i]? = some x ↔ l[i]? = some x ∨ (i = l.length ∧ s = x) := by
  rw [List.getElem?_append]
  split
  · rename_i h
    constructor
    · exact .inl
    · rintro (h' | ⟨h', _⟩)
      · exact h'
      · omega
  · rename_i h
    have h1 : l[i]? = none := List.getElem?_eq_none (by omega)
    rw [h1]
    constructor
    · intro h'
      right
      have : i - l.length = 0 := by
        cases e : i - l.length with
        | zero => rfl
        | succ m => rw [e] at h'; simp at h'
      rw [this] at h'
      exact ⟨by omega, by simpa using h'⟩
    · rintro (h' | ⟨rfl, rfl⟩)
      · cases h'
      · simp
theorem of_nil : Of [] [] := ⟨List.Pairwise.nil, Nat.le_refl _, fun k n => by simp⟩
theorem rev_ind {α : Type} {p : List α → Prop} (h0 : p []) (h1 : ∀ l a, p l → p (l ++ [a])) (l : List α) : p l := by
  have h : ∀ m : List α, p m.reverse := by
    intro m
    induction m with
    | nil => exact h0
    | cons a m ih => rw [List.reverse_cons]; exact h1 _ _ ih
  have := h l.reverse
  rwa [List.reverse_reverse] at this
theorem keyed_cases : ∀ (l : List Sl), (∃ d, keyed l = some d ∧ Of l d ∧ Dir l) ∨ (keyed l = none ∧ ¬ Dir l) := by
  intro l
  refine rev_ind (p := fun l => (∃ d, keyed l = some d ∧ Of l d ∧ Dir l) ∨ (keyed l = none ∧ ¬ Dir l)) ?_ ?_ l
  · exact .inl ⟨[], rfl, of_nil, ⟨by simp, by simp⟩⟩
  · intro l s ih
    rw [keyed_snoc]
    rcases ih with ⟨d, h1, ⟨h2, h3, h4⟩, h5, h6⟩ | ⟨h1, h2⟩
    · rw [h1]
      obtain ⟨u, k⟩ := s
      cases u with
      | false =>
        by_cases hk : k = 0
        · subst hk
          left
          refine ⟨d, rfl, ⟨h2, by simp; omega, fun k n => ?_⟩, ?_, ?_⟩
          · rw [h4]
            constructor
            · rintro ⟨i, e, h⟩; exact ⟨i, e, (at_snoc ..).2 (.inl h)⟩
            · rintro ⟨i, e, h⟩
              rcases (at_snoc ..).1 h with h | ⟨_, h⟩
              · exact ⟨i, e, h⟩
              · simp at h
          · intro s hs hu
            rcases List.mem_append.1 hs with hs | hs
            · exact h5 s hs hu
            · simp at hs; subst hs; rfl
          · intro i j k hi hj
            rcases (at_snoc ..).1 hi with hi | ⟨_, hi⟩
            · rcases (at_snoc ..).1 hj with hj | ⟨_, hj⟩
              · exact h6 i j k hi hj
              · simp at hj
            · simp at hi
        · right
          refine ⟨by simp [kstep, hk], fun h => hk (h.1 (false, k) (by simp) rfl)⟩
      | true =>
        cases hg : Dc.get d k with
        | none =>
          left
          have hn := Dc.get_none.1 hg
          have hno : ∀ i : Nat, l[i]? ≠ some (true, k) := fun i h => hn (k, (i : Int)) ((h4 k i).2 ⟨i, rfl, h⟩) rfl
          refine ⟨Dc.put d k (l.length : Int), by simp [kstep, hg], ⟨Dc.srt_put h2 _ _, ?_, fun k' n => ?_⟩, ?_, ?_⟩
          · rw [Dc.len_put_new h2 _ _ hg]; simp; omega
          · rw [Dc.mem_put]
            constructor
            · rintro (h | ⟨h, h'⟩)
              · simp at h
                exact ⟨l.length, h.2, (at_snoc ..).2 (.inr ⟨rfl, by rw [h.1]⟩)⟩
              · obtain ⟨i, e, h⟩ := (h4 _ _).1 h
                exact ⟨i, e, (at_snoc ..).2 (.inl h)⟩
            · rintro ⟨i, e, h⟩
              rcases (at_snoc ..).1 h with hh | ⟨h', h⟩
              · right
                refine ⟨(h4 _ _).2 ⟨i, e, hh⟩, fun h' => ?_⟩
                simp at h'
                subst h'
                exact hno i hh
              · left
                simp at h
                rw [e, h', h]
          · intro s hs hu
            rcases List.mem_append.1 hs with hs | hs
            · exact h5 s hs hu
            · simp at hs; subst hs; cases hu
          · intro i j k' hi hj
            rcases (at_snoc ..).1 hi with hi | ⟨hi', hi⟩
            · rcases (at_snoc ..).1 hj with hj | ⟨hj', hj⟩
              · exact h6 i j k' hi hj
              · simp at hj; subst hj; exact absurd hi (hno i)
            · rcases (at_snoc ..).1 hj with hj | ⟨hj', hj⟩
              · simp at hi; subst hi; exact absurd hj (hno j)
              · omega
        | some n =>
          right
          refine ⟨by simp [kstep, hg], fun h => ?_⟩
          obtain ⟨i, e, hi⟩ := (h4 k n).1 ((Dc.get_some h2).1 hg)
          have := h.2 i l.length k ((at_snoc ..).2 (.inl hi)) ((at_snoc ..).2 (.inr ⟨rfl, rfl⟩))
          have hl : i < l.length := (List.getElem?_eq_some_iff.1 hi).1
          omega
    · right
      refine ⟨by rw [h1]; rfl, fun h => h2 ⟨fun s hs => h.1 s (List.mem_append_left _ hs), fun i j k hi hj => h.2 i j k ((at_snoc ..).2 (.inl hi)) ((at_snoc ..).2 (.inl hj))⟩⟩
end Vt

/- Directories: the first slot that is free, the slot of a key, adding and removing. -/
set_option linter.unusedVariables false
namespace Vt
/-- The first slot that is not used. -/
def ff (l : List Sl) : Option Nat := l.findIdx? fun s => !s.1
theorem ff_here {l : List Sl} {j : Nat} (h : j < l.length) (h1 : ∀ i, (hi : i < j) → l[i].1 = true) (h2 : l[j].1 = false) : ff l = some j := by
  unfold ff
  rw [List.findIdx?_eq_some_iff_getElem]
  exact ⟨h, by simp [h2], fun i hi => by simp [h1 i hi]⟩
theorem ff_none {l : List Sl} (h1 : ∀ i, (hi : i < l.length) → l[i].1 = true) : ff l = none := by
  unfold ff
  rw [List.findIdx?_eq_none_iff]
  intro x hx
  obtain ⟨i, hi, rfl⟩ := List.getElem_of_mem hx
  simp [h1 i hi]
theorem ff_some {l : List Sl} {j : Nat} (h : ff l = some j) : ∃ h : j < l.length, l[j].1 = false ∧ ∀ i, (hi : i < j) → l[i].1 = true := by
  unfold ff at h
  rw [List.findIdx?_eq_some_iff_getElem] at h
  obtain ⟨h, h1, h2⟩ := h
  exact ⟨h, by simpa using h1, fun i hi => by simpa using h2 i hi⟩
theorem ff_none' {l : List Sl} (h : ff l = none) : ∀ i, (hi : i < l.length) → l[i].1 = true := by
  unfold ff at h
  rw [List.findIdx?_eq_none_iff] at h
  intro i hi
  have := h l[i] (List.getElem_mem hi)
  simpa using this
/-- The first slot of a key. -/
def fn (l : List Sl) (k : Int) : Option Nat := l.findIdx? fun s => s.1 && s.2 == k
theorem fn_here {l : List Sl} {k : Int} {j : Nat} (h : j < l.length) (h1 : ∀ i, (hi : i < j) → ¬ (l[i].1 = true ∧ l[i].2 = k)) (h2 : l[j].1 = true ∧ l[j].2 = k) : fn l k = some j := by
  unfold fn
  rw [List.findIdx?_eq_some_iff_getElem]
  exact ⟨h, by simp [h2.1, h2.2], fun i hi => by have := h1 i hi; simpa using this⟩
theorem fn_none {l : List Sl} {k : Int} (h1 : ∀ i, (hi : i < l.length) → ¬ (l[i].1 = true ∧ l[i].2 = k)) : fn l k = none := by
  unfold fn
  rw [List.findIdx?_eq_none_iff]
  intro x hx
  obtain ⟨i, hi, rfl⟩ := List.getElem_of_mem hx
  have := h1 i hi
  simpa using this
theorem fn_some {l : List Sl} {k : Int} {j : Nat} (h : fn l k = some j) : l[j]? = some (true, k) := by
  unfold fn at h
  rw [List.findIdx?_eq_some_iff_getElem] at h
  obtain ⟨h, h1, h2⟩ := h
  simp at h1
  rw [List.getElem?_eq_getElem h, ← h1.1, ← h1.2]
theorem fn_none' {l : List Sl} {k : Int} (h : fn l k = none) (i : Nat) : l[i]? ≠ some (true, k) := by
  intro hi
  unfold fn at h
  rw [List.findIdx?_eq_none_iff] at h
  have := h (true, k) (List.mem_of_getElem? hi)
  simp at this
theorem get_fn {l : List Sl} {d : List (Int × Int)} (h : Of l d) (hd : Dir l) (k : Int) : Dc.get d k = (fn l k).map fun i : Nat => (i : Int) := by
  obtain ⟨hs, _, hm⟩ := h
  cases hf : fn l k with
  | none =>
    rw [Option.map_none, Dc.get_none]
    rintro e he rfl
    obtain ⟨i, _, hi⟩ := (hm _ _).1 he
    exact fn_none' hf i hi
  | some j =>
    rw [Option.map_some, Dc.get_some hs, hm]
    exact ⟨j, rfl, fn_some hf⟩
theorem dir_fn {l : List Sl} (hd : Dir l) {k : Int} {i : Nat} (hi : l[i]? = some (true, k)) : fn l k = some i := by
  cases hf : fn l k with
  | none => exact absurd hi (fn_none' hf i)
  | some j => rw [hd.2 i j k hi (fn_some hf)]
theorem at_set {l : List Sl} {v : Nat} (hv : v < l.length) (s x : Sl) (i : Nat) : (l.set v s)[i]? = some x ↔ (i = v ∧ s = x) ∨ (i ≠ v ∧ l[i]? = some x) := by
  by_cases h : v = i
  · subst h; simp [hv]
  · rw [List.getElem?_set_ne h]
    constructor
    · intro h'; exact .inr ⟨fun e => h e.symm, h'⟩
    · rintro (⟨e, _⟩ | ⟨_, h'⟩)
      · exact absurd e.symm h
      · exact h'
theorem mem_iff {l : List Sl} {s : Sl} : s ∈ l ↔ ∃ i : Nat, l[i]? = some s := List.mem_iff_getElem?
theorem dir_add {l : List Sl} (hd : Dir l) {k : Int} (hk : fn l k = none) {v : Nat} (hv : v < l.length) : Dir (l.set v (true, k)) := by
  constructor
  · intro s hs hu
    obtain ⟨i, hi⟩ := mem_iff.1 hs
    rcases (at_set hv _ _ _).1 hi with ⟨_, rfl⟩ | ⟨_, hi⟩
    · cases hu
    · exact hd.1 s (mem_iff.2 ⟨i, hi⟩) hu
  · intro i j k' hi hj
    rcases (at_set hv _ _ _).1 hi with ⟨e1, h1⟩ | ⟨n1, hi⟩ <;> rcases (at_set hv _ _ _).1 hj with ⟨e2, h2⟩ | ⟨n2, hj⟩
    · omega
    · cases h1; exact absurd hj (fn_none' hk j)
    · cases h2; exact absurd hi (fn_none' hk i)
    · exact hd.2 i j k' hi hj
theorem dir_rem {l : List Sl} (hd : Dir l) {v : Nat} (hv : v < l.length) : Dir (l.set v (false, 0)) := by
  constructor
  · intro s hs hu
    obtain ⟨i, hi⟩ := mem_iff.1 hs
    rcases (at_set hv _ _ _).1 hi with ⟨_, rfl⟩ | ⟨_, hi⟩
    · rfl
    · exact hd.1 s (mem_iff.2 ⟨i, hi⟩) hu
  · intro i j k' hi hj
    rcases (at_set hv _ _ _).1 hi with ⟨e1, h1⟩ | ⟨n1, hi⟩
    · cases h1
    · rcases (at_set hv _ _ _).1 hj with ⟨e2, h2⟩ | ⟨n2, hj⟩
      · cases h2
      · exact hd.2 i j k' hi hj
/-- The sizes and being a directory. -/
def Ok (l : List Sl) : Prop := 1 ≤ l.length ∧ l.length ≤ 1024 ∧ Dir l
theorem ok_add {l : List Sl} (hd : Ok l) {k : Int} (hk : fn l k = none) {v : Nat} (hv : v < l.length) : Ok (l.set v (true, k)) := ⟨by simpa using hd.1, by simpa using hd.2.1, dir_add hd.2.2 hk hv⟩
theorem ok_rem {l : List Sl} (hd : Ok l) {v : Nat} (hv : v < l.length) : Ok (l.set v (false, 0)) := ⟨by simpa using hd.1, by simpa using hd.2.1, dir_rem hd.2.2 hv⟩
open Classical in
/-- Adding: the slots, which one, the error. -/
noncomputable def add (l : List Sl) (k : Int) : List Sl × Nat × Nat :=
  if Ok l then (if (fn l k).isSome then (l, 0, 4) else match ff l with | none => (l, 0, 10) | some v => (l.set v (true, k), v, 0)) else (l, 0, 1)
open Classical in
noncomputable def rem (l : List Sl) (k : Int) : List Sl × Nat :=
  if Ok l then (match fn l k with | none => (l, 7) | some v => (l.set v (false, 0), 0)) else (l, 1)
theorem add_bad {l : List Sl} (h : ¬ Ok l) (k : Int) : add l k = (l, 0, 1) := by unfold add; rw [if_neg h]
theorem add_there {l : List Sl} (h : Ok l) {k : Int} (hk : (fn l k).isSome = true) : add l k = (l, 0, 4) := by unfold add; rw [if_pos h, if_pos hk]
theorem add_full {l : List Sl} (h : Ok l) {k : Int} (hk : fn l k = none) (hf : ff l = none) : add l k = (l, 0, 10) := by unfold add; rw [if_pos h, if_neg (by rw [hk]; simp), hf]
theorem add_ok {l : List Sl} (h : Ok l) {k : Int} (hk : fn l k = none) {v : Nat} (hf : ff l = some v) : add l k = (l.set v (true, k), v, 0) := by unfold add; rw [if_pos h, if_neg (by rw [hk]; simp), hf]
theorem rem_bad {l : List Sl} (h : ¬ Ok l) (k : Int) : rem l k = (l, 1) := by unfold rem; rw [if_neg h]
theorem rem_none {l : List Sl} (h : Ok l) {k : Int} (hk : fn l k = none) : rem l k = (l, 7) := by unfold rem; rw [if_pos h, hk]
theorem rem_ok {l : List Sl} (h : Ok l) {k : Int} {v : Nat} (hf : fn l k = some v) : rem l k = (l.set v (false, 0), 0) := by unfold rem; rw [if_pos h, hf]
theorem len_add (l : List Sl) (k : Int) : (add l k).1.length = l.length := by
  unfold add
  split
  · split
    · rfl
    · split <;> simp
  · rfl
theorem len_rem (l : List Sl) (k : Int) : (rem l k).1.length = l.length := by
  unfold rem
  split
  · split <;> simp
  · rfl
theorem add_cases (l : List Sl) (k : Int) : (¬ Ok l ∧ add l k = (l, 0, 1)) ∨ (Ok l ∧ (∃ j, fn l k = some j) ∧ add l k = (l, 0, 4)) ∨ (Ok l ∧ fn l k = none ∧ ff l = none ∧ add l k = (l, 0, 10)) ∨
    (Ok l ∧ fn l k = none ∧ ∃ v, ff l = some v ∧ add l k = (l.set v (true, k), v, 0)) := by
  by_cases h : Ok l
  · cases hk : fn l k with
    | some j => exact .inr (.inl ⟨h, ⟨j, rfl⟩, add_there h (by rw [hk]; rfl)⟩)
    | none =>
      cases hf : ff l with
      | none => exact .inr (.inr (.inl ⟨h, rfl, rfl, add_full h hk hf⟩))
      | some v => exact .inr (.inr (.inr ⟨h, rfl, v, rfl, add_ok h hk hf⟩))
  · exact .inl ⟨h, add_bad h k⟩
theorem rem_cases (l : List Sl) (k : Int) : (¬ Ok l ∧ rem l k = (l, 1)) ∨ (Ok l ∧ fn l k = none ∧ rem l k = (l, 7)) ∨ (Ok l ∧ ∃ v, fn l k = some v ∧ rem l k = (l.set v (false, 0), 0)) := by
  by_cases h : Ok l
  · cases hk : fn l k with
    | none => exact .inr (.inl ⟨h, rfl, rem_none h hk⟩)
    | some v => exact .inr (.inr ⟨h, v, rfl, rem_ok h hk⟩)
  · exact .inl ⟨h, rem_bad h k⟩
/-- The first stores: the answers of the first words. -/
theorem ff_set {l : List Sl} {v : Nat} (h : ff l = some v) (k : Int) : (l.set v (true, k)).set v (false, 0) = l ∨ l[v]? ≠ some (false, 0) := by
  by_cases hc : l[v]? = some (false, 0)
  · left
    obtain ⟨hv, _⟩ := ff_some h
    rw [List.set_set]
    rw [List.getElem?_eq_getElem hv] at hc
    have := Option.some.inj hc
    rw [← this, List.set_getElem_self]
  · exact .inr hc
/-! ## Keys, one after the other -/
def ks (d : List (Int × Int)) : List Int := d.map (·.1)
theorem ks_len (d : List (Int × Int)) : (ks d).length = d.length := by simp [ks]
theorem ks_put {d : List (Int × Int)} (hs : Dc.Srt d) {k : Int} (hn : Dc.get d k = none) (n : Int) : ks (Dc.put d k n) = (ks d).take (Dc.less d k) ++ [k] ++ (ks d).drop (Dc.less d k) := by
  obtain ⟨h1, h2⟩ := Dc.take_less d k hs
  have h3 : d.filter (fun e => decide (k ≤ e.1)) = d.filter (fun e => decide (k < e.1)) := by
    apply List.filter_congr
    intro e he
    have : e.1 ≠ k := Dc.get_none.1 hn e he
    simp only [decide_eq_decide]
    omega
  unfold ks Dc.put
  rw [List.map_append, List.map_cons, ← List.map_take, ← List.map_drop, h1, h2, h3]
  simp
theorem ks_less {d : List (Int × Int)} (hs : Dc.Srt d) (k : Int) {p : Nat} (hp : p < d.length) : (ks d).getD p 0 < k ↔ p < Dc.less d k := by
  have h := Dc.less_iff hs k p hp
  have e : (ks d).getD p 0 = d[p].1 := by simp [ks, List.getD, hp]
  rw [e]
  omega
theorem keyed_pre {l : List Sl} (hd : Dir l) (i : Nat) : ∃ d, keyed (l.take i) = some d ∧ Dc.Srt d ∧ d.length ≤ i := by
  rcases keyed_cases l with ⟨d0, h0, -, -⟩ | ⟨-, h2⟩
  · rcases keyed_cases (l.take i) with ⟨d, h1, h2, -⟩ | ⟨h1, -⟩
    · refine ⟨d, h1, h2.1, ?_⟩
      have := h2.2.1
      rw [List.length_take] at this
      omega
    · rw [keyed_none l i h1] at h0; cases h0
  · exact absurd hd h2
theorem keyed_step {l : List Sl} (hd : Dir l) {i : Nat} (hi : i < l.length) {d : List (Int × Int)} (h : keyed (l.take i) = some d) :
    (l[i].1 = false ∧ keyed (l.take (i + 1)) = some d) ∨ (l[i].1 = true ∧ Dc.get d l[i].2 = none ∧ keyed (l.take (i + 1)) = some (Dc.put d l[i].2 (i : Int))) := by
  obtain ⟨d', h1, -, -⟩ := keyed_pre hd (i + 1)
  have h2 := keyed_take l i hi
  rw [h, h1] at h2
  generalize l[i] = s at *
  obtain ⟨u, k⟩ := s
  cases u with
  | false =>
    left
    refine ⟨rfl, ?_⟩
    simp only [kstep, Option.bind_some] at h2
    simp only [Bool.false_eq_true, if_false] at h2
    split at h2
    · rw [h1, h2]
    · cases h2
  | true =>
    right
    simp only [kstep, Option.bind_some, if_true] at h2
    split at h2
    · cases h2
    · rename_i hg
      refine ⟨rfl, by simpa using hg, ?_⟩
      rw [h1, h2]
end Vt

namespace Pt

/-- The number at place v of a list: 0 outside it. -/
def g (p : List Int) (v : Int) : Int := p.getD v.toNat 0
/-- v is one of n. -/
def InR (n : Nat) (v : Int) : Prop := 0 ≤ v ∧ v < n
instance (n : Nat) (v : Int) : Decidable (InR n v) := by unfold InR; exact inferInstance
/-- A partition. -/
def Rt (p : List Int) : Prop := ∀ v : Int, InR p.length v → 0 ≤ g p v ∧ g p v ≤ v ∧ g p (g p v) = g p v

theorem g_map (f : Int → Int) (p : List Int) (v : Int) (h : InR p.length v) : g (p.map f) v = f (g p v) := by
  obtain ⟨h0, h1⟩ := h
  have hl : v.toNat < p.length := by omega
  simp [g, List.getD, hl]

theorem ext_g {p q : List Int} (hl : p.length = q.length) (h : ∀ v : Int, InR p.length v → g p v = g q v) : p = q := by
  apply List.ext_getElem hl
  intro i h1 h2
  have := h (i : Int) ⟨by omega, by omega⟩
  simpa [g, List.getD, h1, h2] using this

/-- The classes of u and v made one. -/
def joinL (p : List Int) (u v : Int) : List Int := p.map fun x => if x = max (g p u) (g p v) then min (g p u) (g p v) else x

theorem len_join (p : List Int) (u v : Int) : (joinL p u v).length = p.length := by simp [joinL]

theorem g_join (p : List Int) (u v x : Int) (h : InR p.length x) :
    g (joinL p u v) x = if g p x = max (g p u) (g p v) then min (g p u) (g p v) else g p x := by
  unfold joinL; rw [g_map _ _ _ h]

theorem Rt.inr {p : List Int} (h : Rt p) {v : Int} (hv : InR p.length v) : InR p.length (g p v) := by
  obtain ⟨a, b, _⟩ := h v hv
  obtain ⟨c, d⟩ := hv
  exact ⟨a, by omega⟩

theorem Rt.join {p : List Int} (h : Rt p) {u v : Int} (hu : InR p.length u) (hv : InR p.length v) : Rt (joinL p u v) := by
  intro x hx
  rw [len_join] at hx
  have hx' := h x hx
  have hu' := h u hu
  have hv' := h v hv
  have hxr := h.inr hx
  have hur := h.inr hu
  have hvr := h.inr hv
  have h1 : InR p.length (min (g p u) (g p v)) := by unfold InR at *; omega
  rw [g_join p u v x hx]
  have hmin : g p (min (g p u) (g p v)) = min (g p u) (g p v) := by
    by_cases hc : g p u ≤ g p v
    · rw [Int.min_eq_left hc]; exact hu'.2.2
    · rw [Int.min_eq_right (by omega)]; exact hv'.2.2
  by_cases hc : g p x = max (g p u) (g p v)
  · simp only [hc, if_true]
    refine ⟨by omega, by omega, ?_⟩
    rw [g_join p u v _ h1, hmin]
    split <;> omega
  · simp only [hc, if_false]
    refine ⟨by omega, by omega, ?_⟩
    rw [g_join p u v _ hxr, hx'.2.2]
    simp [hc]

theorem join_same {p : List Int} {u v x y : Int} (hx : InR p.length x) (hy : InR p.length y) (h : g p x = g p y) :
    g (joinL p u v) x = g (joinL p u v) y := by
  rw [g_join _ _ _ _ hx, g_join _ _ _ _ hy, h]

theorem join_made {p : List Int} {u v : Int} (hu : InR p.length u) (hv : InR p.length v) :
    g (joinL p u v) u = g (joinL p u v) v := by
  rw [g_join _ _ _ _ hu, g_join _ _ _ _ hv]
  split <;> split <;> omega

/-- n vertices, each alone. -/
def idl (n : Nat) : List Int := (List.range n).map Int.ofNat
theorem len_idl (n : Nat) : (idl n).length = n := by simp [idl]
theorem g_idl {n : Nat} {v : Int} (h : InR n v) : g (idl n) v = v := by
  obtain ⟨a, b⟩ := h
  have : v.toNat < n := by omega
  simp [g, idl, List.getD, this]; omega
theorem Rt_idl (n : Nat) : Rt (idl n) := by
  intro v hv
  rw [len_idl] at hv
  rw [g_idl hv]
  exact ⟨hv.1, Int.le_refl _, g_idl hv⟩

/-- The partition of edges. -/
def partOf (n : Nat) (l : List (Int × Int)) : List Int := l.foldl (fun p e => joinL p e.1 e.2) (idl n)

def MayL (n : Nat) (l : List (Int × Int)) : Prop := ∀ e ∈ l, InR n e.1 ∧ InR n e.2

theorem len_foldJoin (l : List (Int × Int)) (p : List Int) : (l.foldl (fun p e => joinL p e.1 e.2) p).length = p.length := by
  induction l generalizing p with
  | nil => rfl
  | cons e l ih => simp only [List.foldl_cons]; rw [ih, len_join]
theorem len_partOf (n : Nat) (l : List (Int × Int)) : (partOf n l).length = n := by
  unfold partOf; rw [len_foldJoin, len_idl]

theorem Rt_foldJoin (l : List (Int × Int)) (p : List Int) (hp : Rt p) (hl : MayL p.length l) : Rt (l.foldl (fun p e => joinL p e.1 e.2) p) := by
  induction l generalizing p with
  | nil => exact hp
  | cons e l ih =>
    simp only [List.foldl_cons]
    have he := hl e (by simp)
    refine ih _ (hp.join he.1 he.2) ?_
    rw [len_join]
    exact fun x hx => hl x (by simp [hx])
theorem Rt_partOf {n : Nat} {l : List (Int × Int)} (hl : MayL n l) : Rt (partOf n l) :=
  Rt_foldJoin l _ (Rt_idl n) (by rw [len_idl]; exact hl)

/-- What holds an edge's ends together holds each class together. -/
theorem univ_foldJoin {α : Type} (q : Int → α) (l : List (Int × Int)) (p : List Int) (hp : Rt p) (hl : MayL p.length l) (hq : ∀ e ∈ l, q e.1 = q e.2)
    (h0 : ∀ x, InR p.length x → q x = q (g p x)) : ∀ x, InR p.length x → q x = q (g (l.foldl (fun p e => joinL p e.1 e.2) p) x) := by
  induction l generalizing p with
  | nil => exact h0
  | cons e l ih =>
    simp only [List.foldl_cons]
    have he := hl e (by simp)
    have := ih (joinL p e.1 e.2) (hp.join he.1 he.2) (by rw [len_join]; exact fun x hx => hl x (by simp [hx])) (fun x hx => hq x (by simp [hx])) ?_
    · rw [len_join] at this; exact this
    · rw [len_join]
      intro x hx
      rw [g_join _ _ _ _ hx]
      have e1 := h0 _ he.1
      have e2 := h0 _ he.2
      have e3 := hq e (by simp)
      by_cases hc : g p x = max (g p e.1) (g p e.2)
      · simp only [hc, if_true]
        rw [h0 x hx, hc]
        by_cases hd : g p e.1 ≤ g p e.2
        · rw [Int.max_eq_right hd, Int.min_eq_left hd, ← e1, ← e2, e3]
        · rw [Int.max_eq_left (by omega), Int.min_eq_right (by omega), ← e1, ← e2, e3]
      · simp only [hc, if_false]; exact h0 x hx
theorem univ_partOf {α : Type} (q : Int → α) {n : Nat} {l : List (Int × Int)} (hl : MayL n l) (hq : ∀ e ∈ l, q e.1 = q e.2) :
    ∀ x, InR n x → q x = q (g (partOf n l) x) := by
  have := univ_foldJoin q l (idl n) (Rt_idl n) (by rw [len_idl]; exact hl) hq (fun x hx => by rw [len_idl] at hx; rw [g_idl hx])
  rwa [len_idl] at this

theorem fold_same (l : List (Int × Int)) (p : List Int) {x y : Int} (hx : InR p.length x) (hy : InR p.length y) (h : g p x = g p y) :
    g (l.foldl (fun p e => joinL p e.1 e.2) p) x = g (l.foldl (fun p e => joinL p e.1 e.2) p) y := by
  induction l generalizing p with
  | nil => exact h
  | cons e l ih =>
    simp only [List.foldl_cons]
    exact ih _ (by rw [len_join]; exact hx) (by rw [len_join]; exact hy) (join_same hx hy h)
theorem fold_made (l : List (Int × Int)) (p : List Int) (hl : MayL p.length l) : ∀ e ∈ l, g (l.foldl (fun p e => joinL p e.1 e.2) p) e.1 = g (l.foldl (fun p e => joinL p e.1 e.2) p) e.2 := by
  induction l generalizing p with
  | nil => intro e he; cases he
  | cons d l ih =>
    intro e he
    simp only [List.foldl_cons]
    have hd := hl d (by simp)
    rcases List.mem_cons.1 he with rfl | he'
    · exact fold_same l _ (by rw [len_join]; exact hd.1) (by rw [len_join]; exact hd.2) (join_made hd.1 hd.2)
    · exact ih _ (by rw [len_join]; exact fun x hx => hl x (by simp [hx])) e he'
theorem made_partOf {n : Nat} {l : List (Int × Int)} (hl : MayL n l) : ∀ e ∈ l, g (partOf n l) e.1 = g (partOf n l) e.2 :=
  fold_made l (idl n) (by rw [len_idl]; exact hl)

/-- A partition that holds the edges' ends together, and whose least ones are held together by whatever holds the edges' ends together, is THE partition of the edges. -/
theorem partOf_unique {n : Nat} {l : List (Int × Int)} (hl : MayL n l) {q : List Int} (hlen : q.length = n) (hle : ∀ x, InR n x → InR n (g q x) ∧ g q x ≤ x)
    (hm : ∀ e ∈ l, g q e.1 = g q e.2) (hc : ∀ x, InR n x → g (partOf n l) (g q x) = g (partOf n l) x) : q = partOf n l := by
  refine ext_g (by rw [hlen, len_partOf]) fun x hx => ?_
  rw [hlen] at hx
  have hR := Rt_partOf hl
  have hx' : InR (partOf n l).length x := by rw [len_partOf]; exact hx
  have h1 := hR x hx'
  have h2 := hR.inr hx'
  rw [len_partOf] at h2
  have h3 := univ_partOf (g q) hl hm x hx
  have h4 := (hle _ h2).2
  have h5 := hR (g q x) (by rw [len_partOf]; exact (hle x hx).1)
  rw [hc x hx] at h5
  omega


/-! ## How many classes -/
def cnt (p : List Int) : Nat := (List.range p.length).countP fun v : Nat => decide (g p (v : Int) = (v : Int))

theorem countP_same {n : Nat} {f h : Nat → Bool} (e : ∀ i, i < n → f i = h i) : (List.range n).countP f = (List.range n).countP h := by
  induction n with
  | zero => rfl
  | succ n ih =>
    rw [List.range_succ, List.countP_append, List.countP_append, ih fun i hi => e i (by omega)]
    simp [List.countP_cons, e n (by omega)]
theorem countP_but {n m : Nat} (hm : m < n) {f h : Nat → Bool} (e : ∀ i, i < n → i ≠ m → f i = h i) (h1 : f m = true) (h2 : h m = false) :
    (List.range n).countP f = (List.range n).countP h + 1 := by
  induction n with
  | zero => omega
  | succ n ih =>
    rw [List.range_succ, List.countP_append, List.countP_append]
    by_cases hmn : m = n
    · subst hmn
      rw [countP_same (f := f) (h := h) fun i hi => e i (by omega) (by omega)]
      simp [h1, h2]
    · rw [ih (by omega) fun i hi hne => e i (by omega) hne]
      simp [List.countP_cons, e n (by omega) (by omega)]
      omega

theorem join_id {p : List Int} {u v : Int} (h : g p u = g p v) : joinL p u v = p := by
  unfold joinL
  rw [h]
  have : ∀ x : Int, (if x = max (g p v) (g p v) then min (g p v) (g p v) else x) = x := by
    intro x; split <;> omega
  simp only [this, List.map_id']

theorem cnt_join {p : List Int} (h : Rt p) {u v : Int} (hu : InR p.length u) (hv : InR p.length v) (hne : g p u ≠ g p v) : cnt p = cnt (joinL p u v) + 1 := by
  unfold cnt
  rw [len_join]
  have hu' := h u hu
  have hv' := h v hv
  have hur := h.inr hu
  have hvr := h.inr hv
  refine countP_but (m := (max (g p u) (g p v)).toNat) ?_ ?_ ?_ ?_
  · unfold InR at *; omega
  · intro i hi hne'
    have hir : InR p.length (i : Int) := ⟨by omega, by omega⟩
    have hi' := h i hir
    rw [g_join _ _ _ _ hir]
    by_cases hc : g p (i : Int) = max (g p u) (g p v)
    · simp only [hc, if_true]
      have : ¬ max (g p u) (g p v) = (i : Int) := by unfold InR at *; omega
      have h2 : ¬ min (g p u) (g p v) = (i : Int) := by unfold InR at *; omega
      simp [this, h2]
    · simp [hc]
  · have e1 : ((max (g p u) (g p v)).toNat : Int) = max (g p u) (g p v) := by unfold InR at *; omega
    rw [e1]
    have : g p (max (g p u) (g p v)) = max (g p u) (g p v) := by
      by_cases hc : g p u ≤ g p v
      · rw [Int.max_eq_right hc]; exact hv'.2.2
      · rw [Int.max_eq_left (by omega)]; exact hu'.2.2
    simp [this]
  · have e1 : ((max (g p u) (g p v)).toNat : Int) = max (g p u) (g p v) := by unfold InR at *; omega
    have e2 : InR p.length (max (g p u) (g p v)) := by unfold InR at *; omega
    rw [e1, g_join _ _ _ _ e2]
    have : g p (max (g p u) (g p v)) = max (g p u) (g p v) := by
      by_cases hc : g p u ≤ g p v
      · rw [Int.max_eq_right hc]; exact hv'.2.2
      · rw [Int.max_eq_left (by omega)]; exact hu'.2.2
    simp [this]
    omega

/-! ## What the functions answer -/
def placeB (n v : Int) : Bool := decide (0 ≤ v) && decide (v < n)
def okAt (p : List Int) (v : Nat) : Bool := placeB p.length (g p v) && decide (g p v ≤ (v : Int)) && decide (g p (g p v) = g p v)
def rightB (p : List Int) : Bool := (List.range p.length).all (okAt p)
theorem rightB_iff (p : List Int) : rightB p = true ↔ Rt p := by
  unfold rightB Rt okAt placeB
  rw [List.all_eq_true]
  constructor
  · intro h v hv
    have := h v.toNat (by simp; unfold InR at hv; omega)
    have e : ((v.toNat : Nat) : Int) = v := by unfold InR at hv; omega
    rw [e] at this
    simp at this
    omega
  · intro h v hv
    have hv' : v < p.length := by simpa using hv
    have h1 : InR p.length (v : Int) := ⟨by omega, by omega⟩
    have := h (v : Int) h1
    have h2 := (Rt.inr h h1)
    unfold InR at h2
    simp
    omega
def manyZ (p : List Int) : Nat := if rightB p then cnt p else 0
def classL (p : List Int) (v : Int) : List Int := if rightB p && placeB p.length v then ((List.range p.length).filter fun i : Nat => decide (g p (i : Int) = g p v)).map Int.ofNat else []
def refAt (p q : List Int) (v : Nat) : Bool := decide (g q (v : Int) = g q (g p (v : Int)))
def refinesB (p q : List Int) : Bool := rightB p && rightB q && (p.length == q.length) && (List.range p.length).all (refAt p q)
def joinF (p : List Int) (u v : Int) : List Int := if rightB p && placeB p.length u && placeB p.length v then joinL p u v else p
theorem placeB_iff (n : Nat) (v : Int) : placeB n v = true ↔ InR n v := by simp [placeB, InR]
theorem refinesB_iff (p q : List Int) : refinesB p q = true ↔ Rt p ∧ Rt q ∧ p.length = q.length ∧ ∀ v, InR p.length v → g q v = g q (g p v) := by
  unfold refinesB refAt
  simp only [Bool.and_eq_true, rightB_iff, beq_iff_eq, List.all_eq_true, decide_eq_true_eq, List.mem_range, and_assoc]
  refine and_congr_right fun _ => and_congr_right fun _ => and_congr_right fun _ => ⟨fun h v hv => ?_, fun h v hv => h v ⟨by omega, by omega⟩⟩
  have := h v.toNat (by unfold InR at hv; omega)
  have e : ((v.toNat : Nat) : Int) = v := by unfold InR at hv; omega
  rwa [e] at this


/-! ## Ways upwards (union and find) -/
theorem g_set (p : List Int) (i : Nat) (y x : Int) (h : InR p.length x) : g (p.set i y) x = if x.toNat = i then y else g p x := by
  obtain ⟨h0, h1⟩ := h
  have hl : x.toNat < p.length := by omega
  by_cases hi : x.toNat = i
  · subst hi
    simp [g, List.getD, hl]
  · simp [g, List.getD, hi, Ne.symm hi]

/-- The ways of zs lead up to what the partition P says. -/
def Uf (zs P : List Int) : Prop :=
  zs.length = P.length ∧ ∀ x, InR P.length x → 0 ≤ g zs x ∧ g zs x ≤ x ∧ g P (g zs x) = g P x ∧ (g zs x = x → g P x = x)

theorem Uf_id (n : Nat) : Uf (idl n) (idl n) := by
  refine ⟨rfl, fun x hx => ?_⟩
  rw [len_idl] at hx
  rw [g_idl hx]
  exact ⟨hx.1, Int.le_refl _, g_idl hx, fun _ => rfl⟩

theorem Uf.inr {zs P : List Int} (h : Uf zs P) {v : Int} (hv : InR P.length v) : InR P.length (g zs v) := by
  obtain ⟨a, b, _⟩ := h.2 v hv
  unfold InR at *; omega

theorem Uf.short {zs P : List Int} (h : Uf zs P) {v : Int} (hv : InR P.length v) : Uf (zs.set v.toNat (g zs (g zs v))) P := by
  refine ⟨by simp [h.1], fun x hx => ?_⟩
  have hr := h.inr hv
  have h1 := h.2 v hv
  have h2 := h.2 _ hr
  have h3 := h.2 x hx
  rw [g_set _ _ _ _ (by rw [h.1]; exact hx)]
  by_cases hc : x.toNat = v.toNat
  · have hxv : x = v := by unfold InR at *; omega
    subst hxv
    simp only [if_true]
    refine ⟨h2.1, by omega, by rw [h2.2.2.1, h1.2.2.1], fun he => ?_⟩
    exact h1.2.2.2 (by omega)
  · simp only [hc, if_false]
    exact h3

theorem Uf.union {zs P : List Int} (h : Uf zs P) (hP : Rt P) {u v : Int} (hu : InR P.length u) (hv : InR P.length v) :
    Uf (zs.set (max (g P u) (g P v)).toNat (min (g P u) (g P v))) (joinL P u v) := by
  have hu' := hP u hu
  have hv' := hP v hv
  have hur := hP.inr hu
  have hvr := hP.inr hv
  refine ⟨by simp [h.1, len_join], fun x hx => ?_⟩
  rw [len_join] at hx
  have h3 := h.2 x hx
  rw [g_set _ _ _ _ (by rw [h.1]; exact hx)]
  have hmin : g P (min (g P u) (g P v)) = min (g P u) (g P v) := by
    by_cases hc : g P u ≤ g P v
    · rw [Int.min_eq_left hc]; exact hu'.2.2
    · rw [Int.min_eq_right (by omega)]; exact hv'.2.2
  have hmax : g P (max (g P u) (g P v)) = max (g P u) (g P v) := by
    by_cases hc : g P u ≤ g P v
    · rw [Int.max_eq_right hc]; exact hv'.2.2
    · rw [Int.max_eq_left (by omega)]; exact hu'.2.2
  have hminr : InR P.length (min (g P u) (g P v)) := by unfold InR at *; omega
  by_cases hc : x.toNat = (max (g P u) (g P v)).toNat
  · have hxv : x = max (g P u) (g P v) := by unfold InR at *; omega
    subst hxv
    simp only [if_true]
    refine ⟨by unfold InR at *; omega, by omega, ?_, fun he => ?_⟩
    · rw [g_join _ _ _ _ hminr, g_join _ _ _ _ hx, hmin, hmax]
      simp
    · rw [g_join _ _ _ _ hx, hmax]; simp; omega
  · simp only [hc, if_false]
    refine ⟨h3.1, h3.2.1, ?_, fun he => ?_⟩
    · rw [g_join _ _ _ _ (h.inr hx), g_join _ _ _ _ hx, h3.2.2.1]
    · rw [g_join _ _ _ _ hx, h3.2.2.2 he]
      rw [if_neg]
      intro h; exact hc (by rw [h])

/-- The first k are told what the partition says, the others by ways. -/
def Flat (zs P : List Int) (k : Nat) : Prop := Uf zs P ∧ ∀ x, InR P.length x → x < k → g zs x = g P x
theorem Uf.flat {zs P : List Int} (h : Uf zs P) : Flat zs P 0 := ⟨h, fun x hx hk => by unfold InR at hx; omega⟩
theorem Flat.step {zs P : List Int} {k : Nat} (h : Flat zs P k) (hk : k < P.length) : Flat (zs.set k (g zs (g zs (k : Int)))) P (k + 1) := by
  have hkr : InR P.length (k : Int) := ⟨by omega, by omega⟩
  have hs := h.1.short hkr
  simp only [Int.toNat_natCast] at hs
  refine ⟨hs, fun x hx hlt => ?_⟩
  rw [g_set _ _ _ _ (by rw [h.1.1]; exact hx)]
  have hk' := h.1.2 _ hkr
  by_cases hc : x.toNat = k
  · have hxk : x = (k : Int) := by unfold InR at hx; omega
    subst hxk
    simp only [hc, if_true]
    by_cases he : g zs (k : Int) = (k : Int)
    · rw [he, he, hk'.2.2.2 he]
    · rw [h.2 _ (h.1.inr hkr) (by omega), hk'.2.2.1]
  · simp only [hc, if_false]
    exact h.2 x hx (by unfold InR at hx; omega)
theorem Flat.done {zs P : List Int} (h : Flat zs P P.length) : zs = P := by
  refine ext_g h.1.1 fun x hx => h.2 x (by rw [← h.1.1]; exact hx) ?_
  rw [h.1.1] at hx; exact hx.2


/-- The first k places have their own number, the others 0. -/
def fillI (n k : Nat) : List Int := (List.range n).map fun i : Nat => if i < k then (i : Int) else 0
theorem fillI_zero (n : Nat) : fillI n 0 = List.replicate n 0 := by
  apply List.ext_getElem
  · simp [fillI]
  · intro i h1 h2; simp [fillI]
theorem fillI_all (n : Nat) : fillI n n = idl n := by
  apply List.ext_getElem
  · simp [fillI, idl]
  · intro i h1 h2
    simp [fillI] at h1
    simp [fillI, idl, h1]
theorem fillI_set (n k : Nat) : (fillI n k).set k (k : Int) = fillI n (k + 1) := by
  apply List.ext_getElem
  · simp [fillI]
  · intro i h1 h2
    simp only [List.getElem_set, fillI, List.getElem_map, List.getElem_range]
    by_cases h : k = i
    · subst h; simp
    · simp only [h, if_false]
      by_cases h3 : i < k
      · rw [if_pos h3, if_pos (by omega)]
      · rw [if_neg h3, if_neg (by omega)]
theorem len_fillI (n k : Nat) : (fillI n k).length = n := by simp [fillI]


/-! ## Loops, as far as they have come -/
def cntK (p : List Int) (k : Nat) : Nat := (List.range k).countP fun v : Nat => decide (g p (v : Int) = (v : Int))
theorem cntK_le (p : List Int) (k : Nat) : cntK p k ≤ k := by
  have := List.countP_le_length (p := fun v : Nat => decide (g p (v : Int) = (v : Int))) (l := List.range k)
  simpa [cntK] using this
theorem cntK_step (p : List Int) (k : Nat) : cntK p (k + 1) = cntK p k + if g p (k : Int) = (k : Int) then 1 else 0 := by
  simp only [cntK, List.range_succ, List.countP_append]
  by_cases h : g p (k : Int) = (k : Int) <;> simp [h]
theorem cntK_all (p : List Int) : cntK p p.length = cnt p := rfl
def clK (p : List Int) (v : Int) (k : Nat) : List Int := ((List.range k).filter fun i : Nat => decide (g p (i : Int) = g p v)).map Int.ofNat
theorem clK_le (p : List Int) (v : Int) (k : Nat) : (clK p v k).length ≤ k := by
  have := List.length_filter_le (fun i : Nat => decide (g p (i : Int) = g p v)) (List.range k)
  simpa [clK] using this
theorem clK_step (p : List Int) (v : Int) (k : Nat) : clK p v (k + 1) = clK p v k ++ if g p (k : Int) = g p v then [(k : Int)] else [] := by
  simp only [clK, List.range_succ, List.filter_append, List.map_append]
  by_cases h : g p (k : Int) = g p v <;> simp [h]
/-- The first k of joined are joined, the others as they were. -/
def joinK (p : List Int) (u v : Int) (k : Nat) : List Int := (joinL p u v).take k ++ p.drop k
theorem len_joinK (p : List Int) (u v : Int) {k : Nat} (h : k ≤ p.length) : (joinK p u v k).length = p.length := by
  simp [joinK, len_join]; omega
theorem joinK_zero (p : List Int) (u v : Int) : joinK p u v 0 = p := by simp [joinK]
theorem joinK_all (p : List Int) (u v : Int) : joinK p u v p.length = joinL p u v := by simp [joinK, ← len_join p u v]
theorem joinK_at (p : List Int) (u v : Int) {k : Nat} (h : k < p.length) : (joinK p u v k).getD k 0 = p.getD k 0 := by
  have : ((joinL p u v).take k).length = k := by simp [len_join]; omega
  simp [joinK, List.getD, List.getElem?_append_right, this]
theorem joinK_step (p : List Int) (u v : Int) {k : Nat} (h : k < p.length) :
    joinK p u v (k + 1) = (joinK p u v k).set k (if p.getD k 0 = max (g p u) (g p v) then min (g p u) (g p v) else p.getD k 0) := by
  have hl : ((joinL p u v).take k).length = k := by simp [len_join]; omega
  have hk : k < (joinL p u v).length := by rw [len_join]; exact h
  unfold joinK
  rw [List.take_succ_eq_append_getElem hk, List.set_append_right _ _ (by omega), hl, Nat.sub_self, List.append_assoc]
  congr 1
  rw [List.drop_eq_getElem_cons h, List.set_cons_zero]
  simp [joinL, List.getD, h]
theorem joinK_keep (p : List Int) (u v : Int) {k : Nat} (h : k < p.length) (hne : p.getD k 0 ≠ max (g p u) (g p v)) : joinK p u v (k + 1) = joinK p u v k := by
  rw [joinK_step p u v h, if_neg hne, ← joinK_at p u v h]
  have hl := len_joinK p u v (k := k) (by omega)
  apply List.ext_getElem (by simp)
  intro i h1 h2
  by_cases hi : k = i
  · subst hi; simp [List.getD, h2]
  · simp [hi]


/-! ## Edges -/
abbrev Ed := Int × Int × Int
def uv (l : List Ed) : List (Int × Int) := l.map fun e => (e.1, e.2.1)
def edB (n : Int) (e : Ed) : Bool := placeB n e.1 && placeB n e.2.1
def mayB (n : Int) (l : List Ed) : Bool := l.all (edB n)
theorem mayB_iff (n : Nat) (l : List Ed) : mayB n l = true ↔ MayL n (uv l) := by
  unfold mayB MayL uv edB
  simp only [List.all_eq_true, Bool.and_eq_true, placeB_iff, List.mem_map]
  exact ⟨fun h e ⟨x, hx, he⟩ => by subst he; exact h x hx, fun h x hx => h _ ⟨x, hx, rfl⟩⟩
theorem uv_take (l : List Ed) (k : Nat) : uv (l.take k) = (uv l).take k := by simp [uv, List.map_take]
theorem take_one {α : Type} (l : List α) {k : Nat} (h : k < l.length) : l.take (k + 1) = l.take k ++ [l[k]] := List.take_succ_eq_append_getElem h
theorem partOf_snoc (n : Nat) (l : List (Int × Int)) (e : Int × Int) : partOf n (l ++ [e]) = joinL (partOf n l) e.1 e.2 := by simp [partOf, List.foldl_append]
theorem MayL.take {n : Nat} {l : List (Int × Int)} (h : MayL n l) (k : Nat) : MayL n (l.take k) := fun e he => h e (List.mem_of_mem_take he)


/-! ## The document's own way: lesser ones are handed on till nothing changes -/
def LI (n : Nat) (P q : List Int) : Prop := q.length = n ∧ ∀ x, InR n x → 0 ≤ g q x ∧ g q x ≤ x ∧ g P (g q x) = g P x
def sumI : List Int → Nat
  | [] => 0
  | a :: l => a.toNat + sumI l
theorem sumI_set (l : List Int) (i : Nat) (y : Int) (h : i < l.length) (hy : y.toNat < (l.getD i 0).toNat) : sumI (l.set i y) < sumI l := by
  induction l generalizing i with
  | nil => simp at h
  | cons a l ih =>
    cases i with
    | zero => simp [sumI] at hy ⊢; omega
    | succ i =>
      have := ih i (by simpa using h) (by simpa using hy)
      simp [sumI]; omega
theorem LI_id {n : Nat} {P : List Int} : LI n P (idl n) :=
  ⟨len_idl n, fun x hx => by rw [g_idl hx]; exact ⟨hx.1, Int.le_refl _, rfl⟩⟩
theorem LI.inr {n : Nat} {P q : List Int} (h : LI n P q) {x : Int} (hx : InR n x) : InR n (g q x) := by
  have := h.2 x hx; unfold InR at *; omega
theorem LI.step {n : Nat} {P q : List Int} (h : LI n P q) {u v : Int} (hu : InR n u) (hv : InR n v) (huv : g P u = g P v) (hlt : g q u < g q v) :
    LI n P (q.set v.toNat (g q u)) ∧ sumI (q.set v.toNat (g q u)) < sumI q := by
  have h1 := h.2 u hu
  have h2 := h.2 v hv
  refine ⟨⟨by simp [h.1], fun x hx => ?_⟩, sumI_set _ _ _ (by rw [h.1]; unfold InR at hv; omega) ?_⟩
  · rw [g_set _ _ _ _ (by rw [h.1]; exact hx)]
    by_cases hc : x.toNat = v.toNat
    · have hxv : x = v := by unfold InR at *; omega
      subst hxv
      simp only [if_true]
      exact ⟨h1.1, by omega, by rw [h1.2.2, huv]⟩
    · simp only [hc, if_false]; exact h.2 x hx
  · show (g q u).toNat < (g q v).toNat
    omega
theorem LI.done {n : Nat} {l : List (Int × Int)} (hl : MayL n l) {q : List Int} (h : LI n (partOf n l) q) (he : ∀ e ∈ l, g q e.1 = g q e.2) : q = partOf n l :=
  partOf_unique hl h.1 (fun x hx => ⟨h.inr hx, (h.2 x hx).2.1⟩) he (fun x hx => (h.2 x hx).2.2)
theorem idl_snoc (k : Nat) : idl k ++ [(k : Int)] = idl (k + 1) := by simp [idl, List.range_succ]

end Pt

/- Forests: edges of which each makes two classes one. Plain mathematics, no program in sight. -/
namespace Pt
set_option linter.unusedVariables false

abbrev PE := Int × Int

/-- x and y are connected. -/
def Cn (n : Nat) (l : List PE) (x y : Int) : Prop := g (partOf n l) x = g (partOf n l) y

/-- What holds the ends of each edge together holds the connected together. -/
theorem Cn.univ {α : Type} (q : Int → α) {n : Nat} {l : List PE} (hl : MayL n l) (hq : ∀ e ∈ l, q e.1 = q e.2) {x y : Int} (hx : InR n x) (hy : InR n y) (h : Cn n l x y) : q x = q y := by
  rw [univ_partOf q hl hq x hx, univ_partOf q hl hq y hy]
  unfold Cn at h; rw [h]
theorem Cn.edge {n : Nat} {l : List PE} (hl : MayL n l) {e : PE} (he : e ∈ l) : Cn n l e.1 e.2 := made_partOf hl e he

/-- Edges that hold each other's ends together make the same partition. -/
theorem partOf_ext {n : Nat} {l m : List PE} (hl : MayL n l) (hm : MayL n m) (h1 : ∀ e ∈ l, Cn n m e.1 e.2) (h2 : ∀ e ∈ m, Cn n l e.1 e.2) : partOf n m = partOf n l := by
  have hR := Rt_partOf hm
  refine partOf_unique hl (len_partOf n m) (fun x hx => ?_) h1 (fun x hx => ?_)
  · have hx' : InR (partOf n m).length x := by rw [len_partOf]; exact hx
    have := hR x hx'
    have h3 := hR.inr hx'
    rw [len_partOf] at h3
    exact ⟨h3, this.2.1⟩
  · exact (univ_partOf (g (partOf n l)) hm h2 x hx).symm

theorem MayL.sub {n : Nat} {l m : List PE} (h : MayL n l) (hs : ∀ e ∈ m, e ∈ l) : MayL n m := fun e he => h e (hs e he)
theorem cnt_idl (n : Nat) : cnt (idl n) = n := by
  unfold cnt
  rw [len_idl, countP_same (h := fun _ => true)]
  · simp
  · intro i hi
    simp [g_idl (n := n) (v := (i : Int)) ⟨by omega, by omega⟩]

theorem snoc_ind {α : Type} {P : List α → Prop} (h0 : P []) (h1 : ∀ l a, P l → P (l ++ [a])) : ∀ l, P l := by
  intro l
  have : ∀ m : List α, P m.reverse := by
    intro m
    induction m with
    | nil => exact h0
    | cons a m ih => rw [List.reverse_cons]; exact h1 _ _ ih
  have := this l.reverse
  rwa [List.reverse_reverse] at this

theorem MayL.init {n : Nat} {l : List PE} {e : PE} (h : MayL n (l ++ [e])) : MayL n l ∧ InR n e.1 ∧ InR n e.2 :=
  ⟨fun x hx => h x (by simp [hx]), h e (by simp)⟩

/-- Each edge makes at most two classes one. -/
theorem cnt_ge {n : Nat} : ∀ l : List PE, MayL n l → n ≤ cnt (partOf n l) + l.length := by
  refine snoc_ind ?_ ?_
  · intro _; show n ≤ cnt (idl n) + 0; rw [cnt_idl]; exact Nat.le_refl _
  · intro l e ih h
    obtain ⟨hl, h1, h2⟩ := h.init
    have := ih hl
    rw [partOf_snoc]
    by_cases hc : g (partOf n l) e.1 = g (partOf n l) e.2
    · rw [join_id hc]; simp; omega
    · have := cnt_join (Rt_partOf hl) (u := e.1) (v := e.2) (by rw [len_partOf]; exact h1) (by rw [len_partOf]; exact h2) hc
      simp; omega

/-- A forest: it has as many classes fewer than vertices as it has edges. -/
def Fst (n : Nat) (l : List PE) : Prop := MayL n l ∧ cnt (partOf n l) + l.length = n

theorem Fst.init {n : Nat} {l : List PE} {e : PE} (h : Fst n (l ++ [e])) : Fst n l ∧ ¬ Cn n l e.1 e.2 := by
  obtain ⟨hm, hc⟩ := h
  obtain ⟨hl, h1, h2⟩ := hm.init
  have hge := cnt_ge l hl
  rw [partOf_snoc] at hc
  by_cases he : g (partOf n l) e.1 = g (partOf n l) e.2
  · rw [join_id he] at hc; simp at hc; omega
  · have := cnt_join (Rt_partOf hl) (u := e.1) (v := e.2) (by rw [len_partOf]; exact h1) (by rw [len_partOf]; exact h2) he
    simp at hc
    exact ⟨⟨hl, by omega⟩, he⟩
theorem Fst.snoc {n : Nat} {l : List PE} {e : PE} (h : Fst n l) (h1 : InR n e.1) (h2 : InR n e.2) (he : ¬ Cn n l e.1 e.2) : Fst n (l ++ [e]) := by
  have := cnt_join (Rt_partOf h.1) (u := e.1) (v := e.2) (by rw [len_partOf]; exact h1) (by rw [len_partOf]; exact h2) he
  refine ⟨fun x hx => ?_, ?_⟩
  · rcases List.mem_append.1 hx with hx | hx
    · exact h.1 x hx
    · simp at hx; subst hx; exact ⟨h1, h2⟩
  · rw [partOf_snoc]; have := h.2; simp; omega
theorem Fst.snoc_not {n : Nat} {l : List PE} {e : PE} (he : Cn n l e.1 e.2) : ¬ Fst n (l ++ [e]) := fun h => h.init.2 he

/-- The same edges in another order. -/
theorem partOf_same {n : Nat} {l m : List PE} (hl : MayL n l) (h : ∀ e, e ∈ l ↔ e ∈ m) : partOf n m = partOf n l := by
  have hm : MayL n m := hl.sub fun e he => (h e).2 he
  exact partOf_ext hl hm (fun e he => Cn.edge hm ((h e).1 he)) (fun e he => Cn.edge hl ((h e).2 he))

theorem mem_erase {α : Type} {l : List α} {i : Nat} {a : α} (h : a ∈ l.eraseIdx i) : a ∈ l := List.mem_of_mem_eraseIdx h
theorem erase_mem {α : Type} {l : List α} {i j : Nat} {a : α} (h : l[j]? = some a) (hne : j ≠ i) : a ∈ l.eraseIdx i :=
  List.mem_eraseIdx_iff_getElem?.2 ⟨j, hne, h⟩
theorem mem_erase_iff {α : Type} {l : List α} {i : Nat} {a : α} (h : l[i]? = some a) (b : α) : b ∈ l ↔ b ∈ l.eraseIdx i ++ [a] := by
  constructor
  · intro hb
    obtain ⟨j, hj⟩ := List.mem_iff_getElem?.1 hb
    by_cases e : j = i
    · subst e; rw [h] at hj; injection hj with hj; simp [hj]
    · exact List.mem_append_left _ (erase_mem hj e)
  · intro hb
    rcases List.mem_append.1 hb with hb | hb
    · exact mem_erase hb
    · simp at hb; subst hb; exact List.mem_of_getElem? h

theorem len_erase {α : Type} {l : List α} {i : Nat} {a : α} (h : l[i]? = some a) : (l.eraseIdx i).length + 1 = l.length := by
  obtain ⟨hi, _⟩ := List.getElem?_eq_some_iff.1 h
  rw [List.length_eraseIdx_of_lt hi]; omega

/-- Each edge of a forest: without it its ends are apart, and what is left is a forest. -/
theorem Fst.bridge {n : Nat} {l : List PE} (h : Fst n l) {i : Nat} {e : PE} (hi : l[i]? = some e) : Fst n (l.eraseIdx i) ∧ ¬ Cn n (l.eraseIdx i) e.1 e.2 := by
  have hp := partOf_same h.1 (mem_erase_iff hi)
  refine Fst.init ⟨h.1.sub fun x hx => (mem_erase_iff hi x).2 hx, ?_⟩
  rw [hp]
  have := h.2
  have := len_erase hi
  simp; omega
theorem Fst.inj {n : Nat} {l : List PE} (h : Fst n l) {i j : Nat} {e : PE} (hi : l[i]? = some e) (hj : l[j]? = some e) : i = j := by
  by_cases hne : j = i
  · exact hne.symm
  · exact absurd (Cn.edge (h.bridge hi).1.1 (erase_mem hj hne)) (h.bridge hi).2
theorem Fst.noloop {n : Nat} {l : List PE} (h : Fst n l) {i : Nat} {e : PE} (hi : l[i]? = some e) : e.1 ≠ e.2 := fun he => (h.bridge hi).2 (by unfold Cn; rw [he])

/-! ## Ways -/
def oth (e : PE) (u : Int) : Int := if e.1 = u then e.2 else e.1
theorem oth_in {n : Nat} {e : PE} (h : InR n e.1 ∧ InR n e.2) (u : Int) : InR n (oth e u) := by
  unfold oth; split
  · exact h.2
  · exact h.1
theorem oth_cases {e : PE} {u : Int} (h : e.1 = u ∨ e.2 = u) : (e.1 = u ∧ e.2 = oth e u) ∨ (e.2 = u ∧ e.1 = oth e u) := by
  unfold oth
  by_cases h1 : e.1 = u
  · exact .inl ⟨h1, by rw [if_pos h1]⟩
  · rw [if_neg h1]; exact .inr ⟨h.resolve_left h1, rfl⟩
theorem oth_end {e : PE} {u : Int} (h : e.1 = u ∨ e.2 = u) : e.1 = oth e u ∨ e.2 = oth e u := by
  rcases oth_cases h with ⟨_, h⟩ | ⟨_, h⟩ <;> simp [h]
theorem oth_oth {e : PE} {u : Int} (h : e.1 = u ∨ e.2 = u) : oth e (oth e u) = u := by
  unfold oth
  by_cases h1 : e.1 = u
  · rw [if_pos h1]; split
    · omega
    · exact h1
  · rw [if_neg h1, if_pos rfl]; exact h.resolve_left h1
theorem oth_sum {e : PE} {u : Int} (h : e.1 = u ∨ e.2 = u) : e.1 + e.2 - u = oth e u := by
  rcases oth_cases h with ⟨h1, h2⟩ | ⟨h1, h2⟩ <;> omega
/-- Whatever a function says of both ends of an edge it says of u and the other end. -/
theorem oth_eq {α : Type} (q : Int → α) {e : PE} {u : Int} (h : e.1 = u ∨ e.2 = u) : q e.1 = q e.2 ↔ q u = q (oth e u) := by
  rcases oth_cases h with ⟨h1, h2⟩ | ⟨h1, h2⟩
  · rw [h1, h2]
  · rw [h1, h2]; exact eq_comm

/-- A way from u to v by the edges at these places. -/
def Tr (l : List PE) : Int → List Nat → Int → Prop
  | u, [], v => u = v
  | u, i :: is, v => ∃ e, l[i]? = some e ∧ (e.1 = u ∨ e.2 = u) ∧ Tr l (oth e u) is v
/-- The vertices of a way. -/
def Vs (l : List PE) : Int → List Nat → List Int
  | u, [] => [u]
  | u, i :: is => u :: match l[i]? with | some e => Vs l (oth e u) is | none => []
/-- A way that comes to no vertex twice. -/
def Sm (l : List PE) (u : Int) (p : List Nat) (v : Int) : Prop := Tr l u p v ∧ (Vs l u p).Nodup

theorem Vs_head (l : List PE) (u : Int) (p : List Nat) : ∃ t, Vs l u p = u :: t := by
  cases p with
  | nil => exact ⟨_, rfl⟩
  | cons i p => exact ⟨_, rfl⟩
theorem Vs_mem (l : List PE) (u : Int) (p : List Nat) : u ∈ Vs l u p := by obtain ⟨t, h⟩ := Vs_head l u p; rw [h]; simp
theorem Tr.last {l : List PE} {v : Int} : ∀ {p : List Nat} {u : Int}, Tr l u p v → v ∈ Vs l u p
  | [], u, h => by simp [Tr] at h; simp [Vs, h]
  | i :: is, u, h => by
    obtain ⟨e, he, _, ht⟩ := h
    simp only [Vs, he]
    exact List.mem_cons_of_mem _ ht.last
theorem Tr.len {l : List PE} {v : Int} : ∀ {p : List Nat} {u : Int}, Tr l u p v → (Vs l u p).length = p.length + 1
  | [], u, h => rfl
  | i :: is, u, h => by
    obtain ⟨e, he, _, ht⟩ := h
    simp only [Vs, he, List.length_cons, ht.len]
theorem Tr.ends {l : List PE} {v : Int} : ∀ {p : List Nat} {u : Int}, Tr l u p v → ∀ (i : Nat) (e : PE), i ∈ p → l[i]? = some e → e.1 ∈ Vs l u p ∧ e.2 ∈ Vs l u p
  | [], u, h => fun i e hi => by simp at hi
  | j :: is, u, h => by
    intro i e hi he
    obtain ⟨d, hd, hu, ht⟩ := h
    simp only [Vs, hd]
    rcases List.mem_cons.1 hi with rfl | hi
    · rw [he] at hd; injection hd with hd; subst hd
      have hm := Vs_mem l (oth e u) is
      rcases oth_cases hu with ⟨h1, h2⟩ | ⟨h1, h2⟩
      · exact ⟨by rw [h1]; simp, by rw [h2]; exact List.mem_cons_of_mem _ hm⟩
      · exact ⟨by rw [h2]; exact List.mem_cons_of_mem _ hm, by rw [h1]; simp⟩
    · have := ht.ends _ _ hi he
      exact ⟨List.mem_cons_of_mem _ this.1, List.mem_cons_of_mem _ this.2⟩
theorem Tr.inr {n : Nat} {l : List PE} (hl : MayL n l) {v : Int} : ∀ {p : List Nat} {u : Int}, InR n u → Tr l u p v → ∀ x ∈ Vs l u p, InR n x
  | [], u, hu, h => fun x hx => by simp [Vs] at hx; subst hx; exact hu
  | j :: is, u, hu, h => by
    obtain ⟨d, hd, _, ht⟩ := h
    intro x hx
    simp only [Vs, hd, List.mem_cons] at hx
    rcases hx with rfl | hx
    · exact hu
    · exact Tr.inr hl (oth_in (hl d (List.mem_of_getElem? hd)) u) ht x hx
/-- What holds the ends of a way's edges together holds its ends together. -/
theorem Tr.univ {α : Type} (q : Int → α) {l : List PE} {v : Int} : ∀ {p : List Nat} {u : Int}, Tr l u p v → (∀ i ∈ p, ∀ e, l[i]? = some e → q e.1 = q e.2) → q u = q v
  | [], u, h, _ => by simp [Tr] at h; rw [h]
  | j :: is, u, h, hq => by
    obtain ⟨d, hd, hu, ht⟩ := h
    rw [(oth_eq q hu).1 (hq j (by simp) d hd)]
    exact ht.univ q fun i hi e he => hq i (by simp [hi]) e he
theorem Tr.cn {n : Nat} {l : List PE} (hl : MayL n l) {v : Int} {p : List Nat} {u : Int} (h : Tr l u p v) : Cn n l u v :=
  h.univ (g (partOf n l)) fun i _ e he => Cn.edge hl (List.mem_of_getElem? he)
/-- A way that does not take the edge i. -/
theorem Tr.cn_but {n : Nat} {l : List PE} (hl : MayL n l) {v : Int} {p : List Nat} {u : Int} (h : Tr l u p v) {i : Nat} (hi : i ∉ p) : Cn n (l.eraseIdx i) u v :=
  h.univ (g (partOf n (l.eraseIdx i))) fun j hj e he => Cn.edge (hl.sub fun _ h => mem_erase h) (erase_mem he fun e => hi (e ▸ hj))

theorem Sm.tail {l : List PE} {u v : Int} {i : Nat} {p : List Nat} (h : Sm l u (i :: p) v) : ∃ e, l[i]? = some e ∧ (e.1 = u ∨ e.2 = u) ∧ Sm l (oth e u) p v ∧ u ∉ Vs l (oth e u) p ∧ i ∉ p := by
  obtain ⟨⟨e, he, hu, ht⟩, hn⟩ := h
  simp only [Vs, he, List.nodup_cons] at hn
  refine ⟨e, he, hu, ⟨ht, hn.2⟩, hn.1, fun hi => hn.1 ?_⟩
  have := ht.ends _ _ hi he
  generalize Vs l (oth e u) p = L at this ⊢
  rcases hu with h | h
  · rw [← h]; exact this.1
  · rw [← h]; exact this.2

/-- In a forest there is one way. -/
theorem Fst.unique {n : Nat} {l : List PE} (hf : Fst n l) {v : Int} : ∀ {p q : List Nat} {u : Int}, Sm l u p v → Sm l u q v → p = q
  | [], [], u, _, _ => rfl
  | [], j :: q, u, h1, h2 => by
    have : u = v := h1.1
    subst this
    obtain ⟨e, he, hu, ht, hn, _⟩ := h2.tail
    exact absurd ht.1.last hn
  | i :: p, [], u, h1, h2 => by
    have : u = v := h2.1
    subst this
    obtain ⟨e, he, hu, ht, hn, _⟩ := h1.tail
    exact absurd ht.1.last hn
  | i :: p, j :: q, u, h1, h2 => by
    obtain ⟨e, he, hu, ht, hn, hip⟩ := h1.tail
    obtain ⟨d, hd, hu', ht', hn', hjq⟩ := h2.tail
    by_cases hij : i = j
    · subst hij
      rw [he] at hd; injection hd with hd; subst hd
      rw [Fst.unique hf ht ht']
    · exfalso
      have hiq : i ∉ q := fun hi => hn' (by
        have := ht'.1.ends _ _ hi he
        generalize Vs l (oth d u) q = L at this ⊢
        rcases hu with h | h
        · rw [← h]; exact this.1
        · rw [← h]; exact this.2)
      have hb := hf.bridge he
      have c1 := ht.1.cn_but hf.1 hip
      have c2 := ht'.1.cn_but hf.1 hiq
      have c3 : Cn n (l.eraseIdx i) u (oth d u) := (oth_eq (g (partOf n (l.eraseIdx i))) hu').1 (Cn.edge hb.1.1 (erase_mem hd (Ne.symm hij)))
      refine hb.2 ((oth_eq (g (partOf n (l.eraseIdx i))) hu).2 ?_)
      unfold Cn at c1 c2 c3
      rw [c3, c2, c1]

/-! ## The way back -/
theorem Tr.snoc {l : List PE} {i : Nat} {e : PE} (he : l[i]? = some e) {x : Int} (hx : e.1 = x ∨ e.2 = x) : ∀ {p : List Nat} {u : Int}, Tr l u p x → Tr l u (p ++ [i]) (oth e x)
  | [], u, h => by simp [Tr] at h; subst h; exact ⟨e, he, hx, rfl⟩
  | j :: p, u, h => by
    obtain ⟨d, hd, hu, ht⟩ := h
    exact ⟨d, hd, hu, ht.snoc he hx⟩
theorem Vs_snoc {l : List PE} {i : Nat} {e : PE} (he : l[i]? = some e) {x : Int} (hx : e.1 = x ∨ e.2 = x) : ∀ {p : List Nat} {u : Int}, Tr l u p x → Vs l u (p ++ [i]) = Vs l u p ++ [oth e x]
  | [], u, h => by simp [Tr] at h; subst h; simp [Vs, he]
  | j :: p, u, h => by
    obtain ⟨d, hd, hu, ht⟩ := h
    simp only [List.cons_append, Vs, hd, Vs_snoc he hx ht]
theorem Sm.back {l : List PE} {v : Int} : ∀ {p : List Nat} {u : Int}, Tr l u p v → Tr l v p.reverse u ∧ Vs l v p.reverse = (Vs l u p).reverse
  | [], u, h => by simp [Tr] at h; subst h; exact ⟨rfl, rfl⟩
  | i :: p, u, h => by
    obtain ⟨e, he, hu, ht⟩ := h
    obtain ⟨h1, h2⟩ := Sm.back ht
    have he2 := oth_end hu
    have h3 := Tr.snoc he he2 h1
    have h4 := Vs_snoc he he2 h1
    rw [oth_oth hu] at h3 h4
    rw [List.reverse_cons]
    refine ⟨h3, ?_⟩
    rw [h4, h2]
    simp [Vs, he]
theorem Sm.rev {l : List PE} {u v : Int} {p : List Nat} (h : Sm l u p v) : Sm l v p.reverse u := by
  obtain ⟨h1, h2⟩ := Sm.back h.1
  exact ⟨h1, by rw [h2]; unfold List.Nodup; rw [List.pairwise_reverse]; exact h.2.imp fun h => Ne.symm h⟩

theorem nodup_lt : ∀ (n : Nat) (vs : List Nat), vs.Nodup → (∀ x ∈ vs, x < n) → vs.length ≤ n
  | 0, vs, _, h => by
    cases vs with
    | nil => simp
    | cons a l => exact absurd (h a (by simp)) (by omega)
  | n + 1, vs, hn, h => by
    by_cases hm : n ∈ vs
    · have h1 := nodup_lt n (vs.erase n) (hn.erase n) (fun x hx => by
        have h2 := h x (List.mem_of_mem_erase hx)
        have h3 : x ≠ n := fun e => by subst e; exact absurd hx (hn.not_mem_erase)
        omega)
      rw [List.length_erase_of_mem hm] at h1
      omega
    · have h1 := nodup_lt n vs hn (fun x hx => by
        have h2 := h x hx
        have h3 : x ≠ n := fun e => hm (e ▸ hx)
        omega)
      omega
theorem Nodup_inR {n : Nat} {vs : List Int} (hn : vs.Nodup) (hr : ∀ x ∈ vs, InR n x) : vs.length ≤ n := by
  have h1 : (vs.map Int.toNat).Nodup := by
    rw [List.Nodup, List.pairwise_map]
    refine (List.Pairwise.imp_of_mem ?_ hn)
    intro a b ha hb hab he
    have := hr a ha; have := hr b hb
    unfold InR at *
    exact hab (by omega)
  have h2 : (vs.map Int.toNat) ⊆ List.range n := by
    intro y hy
    obtain ⟨x, hx, rfl⟩ := List.mem_map.1 hy
    have := hr x hx
    unfold InR at this
    simp; omega
  have := nodup_lt n _ h1 (fun x hx => by simpa using h2 hx)
  simpa using this
theorem Sm.short {n : Nat} {l : List PE} (hl : MayL n l) {u v : Int} {p : List Nat} (hu : InR n u) (h : Sm l u p v) : p.length < n := by
  have h1 := h.1.len
  have h2 := Nodup_inR h.2 (h.1.inr hl hu)
  omega

/-! ## Swaps -/
theorem Tr.split_ {l : List PE} {v : Int} : ∀ (p : List Nat) (u : Int) (k : Nat), Tr l u p v → ∀ hk : k < p.length, ∃ e x, l[p[k]]? = some e ∧ (e.1 = x ∨ e.2 = x) ∧ Tr l u (p.take k) x ∧ Tr l (oth e x) (p.drop (k + 1)) v ∧ Vs l u p = Vs l u (p.take k) ++ Vs l (oth e x) (p.drop (k + 1))
  | [], u, k, h => fun hk => absurd hk (by simp)
  | j :: p, u, 0, h => fun hk => by
    obtain ⟨d, hd, hu, ht⟩ := h
    exact ⟨d, u, hd, hu, rfl, ht, by simp [Vs, hd]⟩
  | j :: p, u, k + 1, h => fun hk => by
    obtain ⟨d, hd, hu, ht⟩ := h
    obtain ⟨e, x, h1, h2, h3, h4, h5⟩ := Tr.split_ p _ k ht (by simpa using hk)
    refine ⟨e, x, by simpa using h1, h2, ⟨d, hd, hu, h3⟩, by simpa using h4, ?_⟩
    simp only [Vs, hd, List.take_succ_cons, List.drop_succ_cons, h5, List.cons_append]

/-- Without an edge of the way its ends are apart. -/
theorem Fst.cut {n : Nat} {l : List PE} (hf : Fst n l) {u v : Int} {p : List Nat} (h : Sm l u p v) {k : Nat} (hk : k < p.length) :
    ∃ e x, l[p[k]]? = some e ∧ (e.1 = x ∨ e.2 = x) ∧ Cn n (l.eraseIdx p[k]) u x ∧ Cn n (l.eraseIdx p[k]) (oth e x) v ∧ ¬ Cn n (l.eraseIdx p[k]) u v := by
  obtain ⟨e, x, he, hx, h1, h2, h3⟩ := Tr.split_ _ _ _ h.1 hk
  have hn := h.2
  rw [h3, List.nodup_append] at hn
  obtain ⟨_, _, hd⟩ := hn
  have hb := hf.bridge he
  have hm1 := h1.last
  have hm2 := Vs_mem l (oth e x) (p.drop (k + 1))
  have n1 : p[k] ∉ p.take k := fun hi => by
    have := h1.ends _ _ hi he
    rcases oth_cases hx with ⟨a, b⟩ | ⟨a, b⟩
    · exact hd _ this.2 _ hm2 (by rw [b])
    · exact hd _ this.1 _ hm2 (by rw [b])
  have n2 : p[k] ∉ p.drop (k + 1) := fun hi => by
    have := h2.ends _ _ hi he
    rcases oth_cases hx with ⟨a, b⟩ | ⟨a, b⟩
    · exact hd _ hm1 _ this.1 (by rw [a])
    · exact hd _ hm1 _ this.2 (by rw [a])
  have c1 := h1.cn_but hf.1 n1
  have c2 := h2.cn_but hf.1 n2
  refine ⟨e, x, he, hx, c1, c2, fun hc => hb.2 ((oth_eq (g (partOf n (l.eraseIdx p[k]))) hx).2 ?_)⟩
  unfold Cn at c1 c2 hc
  rw [c2, ← c1, hc]

theorem Fst.swap {n : Nat} {l : List PE} (hf : Fst n l) {u v : Int} (hu : InR n u) (hv : InR n v) {p : List Nat} (h : Sm l u p v) {k : Nat} (hk : k < p.length) :
    Fst n (l.eraseIdx p[k]) ∧ ¬ Cn n (l.eraseIdx p[k]) u v ∧ Fst n (l.eraseIdx p[k] ++ [(u, v)]) ∧ partOf n (l.eraseIdx p[k] ++ [(u, v)]) = partOf n l ∧ ¬ Fst n (l ++ [(u, v)]) := by
  obtain ⟨e, x, he, hx, c1, c2, c3⟩ := hf.cut h hk
  have hb := hf.bridge he
  have hs : Fst n (l.eraseIdx p[k] ++ [(u, v)]) := hb.1.snoc hu hv c3
  refine ⟨hb.1, c3, hs, ?_, Fst.snoc_not (e := (u, v)) (h.1.cn hf.1)⟩
  have up : ∀ {a b : Int}, InR n a → InR n b → Cn n (l.eraseIdx p[k]) a b → Cn n (l.eraseIdx p[k] ++ [(u, v)]) a b := fun ha hb' hc =>
    Cn.univ (g (partOf n (l.eraseIdx p[k] ++ [(u, v)]))) hb.1.1 (fun d hd => Cn.edge hs.1 (by simp [hd])) ha hb' hc
  have hxe := hf.1 e (List.mem_of_getElem? he)
  have hxr : InR n x := by
    rcases hx with h | h
    · rw [← h]; exact hxe.1
    · rw [← h]; exact hxe.2
  refine partOf_ext hf.1 hs.1 (fun d hd => ?_) (fun d hd => ?_)
  · rcases List.mem_append.1 ((mem_erase_iff he d).1 hd) with h' | h'
    · exact Cn.edge hs.1 (by simp [h'])
    · simp at h'; subst h'
      refine (oth_eq (g (partOf n (l.eraseIdx p[k] ++ [(u, v)]))) hx).2 ?_
      have d1 := up hu hxr c1
      have d2 := up (oth_in hxe x) hv c2
      have d3 : Cn n (l.eraseIdx p[k] ++ [(u, v)]) u v := Cn.edge hs.1 (e := (u, v)) (by simp)
      unfold Cn at d1 d2 d3
      rw [← d1, d3, ← d2]
  · rcases List.mem_append.1 hd with h' | h'
    · exact Cn.edge hf.1 (mem_erase h')
    · simp at h'; subst h'; exact h.1.cn hf.1

/-! ## A forest's trees -/
def inC (P : List Int) (r : Int) (n : Nat) : Nat := (List.range n).countP fun x : Nat => decide (g P (x : Int) = r)
def inE (P : List Int) (r : Int) (l : List PE) : Nat := l.countP fun e => decide (g P e.1 = r)

theorem countP_or {α : Type} {f a b : α → Bool} (l : List α) (h : ∀ x ∈ l, f x = (a x || b x)) (hd : ∀ x ∈ l, ¬ (a x = true ∧ b x = true)) : l.countP f = l.countP a + l.countP b := by
  induction l with
  | nil => rfl
  | cons x l ih =>
    have := ih (fun y hy => h y (by simp [hy])) (fun y hy => hd y (by simp [hy]))
    have h1 := h x (by simp)
    have h2 := hd x (by simp)
    simp only [List.countP_cons, this, h1]
    cases ha : a x <;> cases hb : b x <;> simp [ha, hb] at h2 ⊢ <;> omega
theorem countP_ext {α : Type} {f a : α → Bool} (l : List α) (h : ∀ x ∈ l, f x = a x) : l.countP f = l.countP a := List.countP_congr fun x hx => by rw [h x hx]

theorem Fst.trees {n : Nat} : ∀ l : List PE, Fst n l → ∀ r, InR n r → g (partOf n l) r = r → inC (partOf n l) r n = inE (partOf n l) r l + 1 := by
  refine snoc_ind ?_ ?_
  · intro _ r hr _
    show inC (idl n) r n = 0 + 1
    unfold inC
    have : ∀ x, x < n → decide (g (idl n) (x : Int) = r) = decide (x = r.toNat) := by
      intro x hx
      rw [g_idl ⟨by omega, by omega⟩]
      unfold InR at hr
      by_cases h : x = r.toNat
      · have : (x : Int) = r := by omega
        simp [h]; omega
      · have : ¬ (x : Int) = r := by omega
        simp [h, this]
    rw [countP_same this]
    rw [countP_but (m := r.toNat) (f := fun x => decide (x = r.toNat)) (h := fun _ => false)]
    · simp
    · unfold InR at hr; omega
    · intro i hi hne; simp [hne]
    · simp
    · rfl
  · intro l e ih h r hr hroot
    obtain ⟨hf, hc⟩ := h.init
    obtain ⟨_, h1, h2⟩ := h.1.init
    have hR := Rt_partOf hf.1
    have hlen := len_partOf n l
    have ih := ih hf
    rw [partOf_snoc] at hroot ⊢
    unfold Cn at hc
    generalize hP : partOf n l = P at *
    have e1 : InR P.length e.1 := by rw [hlen]; exact h1
    have e2 : InR P.length e.2 := by rw [hlen]; exact h2
    have ha := hR.inr e1
    have hb := hR.inr e2
    have ha2 := (hR _ e1).2.2
    have hb2 := (hR _ e2).2.2
    rw [hlen] at ha hb
    obtain ⟨lo, hlo⟩ : ∃ lo, lo = min (g P e.1) (g P e.2) := ⟨_, rfl⟩
    obtain ⟨hi, hhi⟩ : ∃ hi, hi = max (g P e.1) (g P e.2) := ⟨_, rfl⟩
    have hg : ∀ x, InR n x → g (joinL P e.1 e.2) x = if g P x = hi then lo else g P x := fun x hx => by rw [g_join _ _ _ _ (by rw [hlen]; exact hx), ← hlo, ← hhi]
    have hne : lo ≠ hi := by omega
    have hlor : InR n lo ∧ g P lo = lo := by
      rcases Int.le_total (g P e.1) (g P e.2) with h | h
      · rw [Int.min_eq_left h] at hlo; rw [hlo]; exact ⟨ha, ha2⟩
      · rw [Int.min_eq_right h] at hlo; rw [hlo]; exact ⟨hb, hb2⟩
    have hhir : InR n hi ∧ g P hi = hi := by
      rcases Int.le_total (g P e.1) (g P e.2) with h | h
      · rw [Int.max_eq_right h] at hhi; rw [hhi]; exact ⟨hb, hb2⟩
      · rw [Int.max_eq_left h] at hhi; rw [hhi]; exact ⟨ha, ha2⟩
    rw [hg r hr] at hroot
    have hrh : g P r ≠ hi := by
      intro h; rw [if_pos h] at hroot
      rw [← hroot] at h
      rw [hlor.2] at h
      exact hne h
    rw [if_neg hrh] at hroot
    have he1 : g (joinL P e.1 e.2) e.1 = lo := by
      rw [hg _ h1]
      split
      · rfl
      · omega
    have hin : ∀ d ∈ l, InR n d.1 := fun d hd => (hf.1 d hd).1
    by_cases hrl : r = lo
    · subst hrl
      have hC : inC (joinL P e.1 e.2) r n = inC P r n + inC P hi n := by
        unfold inC
        refine countP_or _ (fun x hx => ?_) (fun x hx => ?_)
        · have hx' : InR n (x : Int) := by simp at hx; exact ⟨by omega, by omega⟩
          rw [hg _ hx']
          by_cases hxh : g P (x : Int) = hi
          · simp [hxh]
          · simp [hxh]
        · simp; omega
      have hE : inE (joinL P e.1 e.2) r l = inE P r l + inE P hi l := by
        unfold inE
        refine countP_or _ (fun x hx => ?_) (fun x hx => ?_)
        · rw [hg _ (hin x hx)]
          by_cases hxh : g P x.1 = hi
          · simp [hxh]
          · simp [hxh]
        · simp; omega
      have hE2 : inE (joinL P e.1 e.2) r (l ++ [e]) = inE (joinL P e.1 e.2) r l + 1 := by
        unfold inE; simp [List.countP_append, he1]
      rw [hC, hE2, hE, ih r hr hroot, ih hi hhir.1 hhir.2]
      omega
    · have hC : inC (joinL P e.1 e.2) r n = inC P r n := by
        unfold inC
        refine countP_ext _ (fun x hx => ?_)
        have hx' : InR n (x : Int) := by simp at hx; exact ⟨by omega, by omega⟩
        rw [hg _ hx']
        by_cases hxh : g P (x : Int) = hi
        · rw [if_pos hxh]
          have : ¬ hi = r := by rw [← hroot]; omega
          have h2 : ¬ lo = r := fun h => hrl h.symm
          simp [hxh, this, h2]
        · simp [hxh]
      have hE : inE (joinL P e.1 e.2) r (l ++ [e]) = inE P r l := by
        unfold inE
        rw [List.countP_append, countP_ext l (a := fun e => decide (g P e.1 = r))]
        · have h2 : ¬ lo = r := fun h => hrl h.symm
          simp [he1, h2]
        · intro x hx
          rw [hg _ (hin x hx)]
          by_cases hxh : g P x.1 = hi
          · rw [if_pos hxh]
            have : ¬ hi = r := by rw [← hroot]; omega
            have h2 : ¬ lo = r := fun h => hrl h.symm
            simp [hxh, this, h2]
          · simp [hxh]
      rw [hC, hE, ih r hr hroot]
end Pt

/- The search through a forest from one vertex on. Plain mathematics, no program in sight. -/
namespace Pt
set_option linter.unusedVariables false

def atB (l : List PE) (x : Int) (i : Nat) : Bool := match l[i]? with | some e => decide (e.1 = x ∨ e.2 = x) | none => false
/-- The places of the edges at x, among the first k. -/
def starK (l : List PE) (x : Int) (k : Nat) : List Nat := (List.range k).filter (atB l x)
theorem starK_zero (l : List PE) (x : Int) : starK l x 0 = [] := rfl
theorem starK_yes {l : List PE} {x : Int} {k : Nat} {e : PE} (hk : l[k]? = some e) (h : e.1 = x ∨ e.2 = x) : starK l x (k + 1) = starK l x k ++ [k] := by
  simp [starK, List.range_succ, List.filter_append, atB, hk, h]
theorem starK_no {l : List PE} {x : Int} {k : Nat} {e : PE} (hk : l[k]? = some e) (h : ¬ (e.1 = x ∨ e.2 = x)) : starK l x (k + 1) = starK l x k := by
  simp only [starK, List.range_succ, List.filter_append]
  have : atB l x k = false := by simp only [atB, hk]; exact decide_eq_false h
  simp [this]
theorem starK_nodup (l : List PE) (x : Int) (k : Nat) : (starK l x k).Nodup := List.Pairwise.filter _ List.nodup_range
theorem starK_len (l : List PE) (x : Int) (k : Nat) : (starK l x k).length ≤ k := by
  have := List.length_filter_le (atB l x) (List.range k)
  simpa [starK] using this
theorem starK_mem {l : List PE} {x : Int} {i : Nat} : i ∈ starK l x l.length ↔ ∃ e, l[i]? = some e ∧ (e.1 = x ∨ e.2 = x) := by
  unfold starK atB
  rw [List.mem_filter, List.mem_range]
  constructor
  · rintro ⟨_, h⟩
    cases he : l[i]? with
    | none => rw [he] at h; simp at h
    | some e => rw [he] at h; exact ⟨e, rfl, by simpa using h⟩
  · rintro ⟨e, he, h⟩
    refine ⟨(List.getElem?_eq_some_iff.1 he).1, ?_⟩
    rw [he]; simpa using h

/-- The search, as far as it has come: os: the vertices that it has come to; the first h of them are done with, and of the next one the edges S. -/
def Bf (n : Nat) (l : List PE) (v : Int) (lead os : List Int) (h : Nat) (S : List Nat) : Prop :=
  lead.length = n ∧ os.Nodup ∧ (∀ x ∈ os, InR n x) ∧ os[0]? = some v ∧ g lead v = -1 ∧ (∀ x, InR n x → x ∉ os → g lead x = -1) ∧
  (∀ (j : Nat) y, 0 < j → os[j]? = some y → ∃ (i : Nat) (e : PE), g lead y = (i : Int) ∧ l[i]? = some e ∧ (e.1 = y ∨ e.2 = y) ∧ ∃ j', j' < j ∧ os[j']? = some (oth e y) ∧ (j' < h ∨ (j' = h ∧ i ∈ S))) ∧
  (∀ (j : Nat) x, os[j]? = some x → ∀ (i : Nat) (e : PE), l[i]? = some e → (e.1 = x ∨ e.2 = x) → (j < h ∨ (j = h ∧ i ∈ S)) → oth e x ∈ os)

theorem g_rep {n : Nat} {x : Int} (hx : InR n x) : g (List.replicate n (-1)) x = -1 := by
  unfold InR at hx
  have : x.toNat < n := by omega
  simp [g, List.getD, this]
theorem Bf.start {n : Nat} {l : List PE} {v : Int} (hv : InR n v) : Bf n l v (List.replicate n (-1)) [v] 0 [] := by
  refine ⟨by simp, by simp, by simp [hv], rfl, g_rep hv, fun x hx _ => g_rep hx, fun j y hj hy => ?_, fun j x hj i e _ _ h => ?_⟩
  · rw [List.getElem?_eq_none (by simp; omega)] at hy; cases hy
  · rcases h with h | ⟨_, h⟩
    · omega
    · simp at h

theorem nd_at {os : List Int} (hn : os.Nodup) {i j : Nat} {x : Int} (hi : os[i]? = some x) (hj : os[j]? = some x) : i = j := by
  obtain ⟨a, ha⟩ := List.getElem?_eq_some_iff.1 hi
  obtain ⟨b, hb⟩ := List.getElem?_eq_some_iff.1 hj
  have h1 := hn.idxOf_getElem i a
  have h2 := hn.idxOf_getElem j b
  rw [ha] at h1
  rw [hb] at h2
  omega

theorem Bf.skip {n : Nat} {l : List PE} {v : Int} {lead os : List Int} {h : Nat} {S : List Nat} (hb : Bf n l v lead os h S) {x : Int} (hx : os[h]? = some x) {i : Nat} {e : PE} (hi : l[i]? = some e) (he : g lead x = (i : Int)) :
    Bf n l v lead os h (S ++ [i]) := by
  obtain ⟨b1, b2, b3, b4, b5, b6, b7, b8⟩ := hb
  refine ⟨b1, b2, b3, b4, b5, b6, fun j y hj hy => ?_, fun j y hj i' e' h1 h2 h3 => ?_⟩
  · obtain ⟨i', e', c1, c2, c3, j', c4, c5, c6⟩ := b7 j y hj hy
    exact ⟨i', e', c1, c2, c3, j', c4, c5, c6.imp id fun ⟨a, b⟩ => ⟨a, by simp [b]⟩⟩
  · rcases h3 with h3 | ⟨h3, h4⟩
    · exact b8 j y hj i' e' h1 h2 (.inl h3)
    · rcases List.mem_append.1 h4 with h4 | h4
      · exact b8 j y hj i' e' h1 h2 (.inr ⟨h3, h4⟩)
      · simp at h4
        subst h4 h3
        rw [hx] at hj; injection hj with hj; subst hj
        have h0 : 0 < j := by
          rcases Nat.eq_zero_or_pos j with h0 | h0
          · subst h0
            rw [b4] at hx; injection hx with hx; subst hx
            omega
          · exact h0
        obtain ⟨i'', e2, c1, c2, c3, j', c4, c5, c6⟩ := b7 j x h0 hx
        have : i'' = i' := by omega
        subst this
        rw [h1] at c2; injection c2 with c2; subst c2
        exact List.mem_of_getElem? c5

/-- All that the search has come to is connected with v without the edge i, if nothing was told i. -/
theorem Bf.cn {n : Nat} {l : List PE} {v : Int} {lead os : List Int} {h : Nat} {S : List Nat} (hl : MayL n l) (hb : Bf n l v lead os h S) {i : Nat} (hi : ∀ y ∈ os, g lead y ≠ (i : Int)) :
    ∀ (j : Nat) y, os[j]? = some y → Cn n (l.eraseIdx i) y v := by
  obtain ⟨b1, b2, b3, b4, b5, b6, b7, b8⟩ := hb
  intro j
  induction j using Nat.strongRecOn with
  | _ j ih =>
    intro y hy
    rcases Nat.eq_zero_or_pos j with h0 | h0
    · subst h0
      rw [b4] at hy; injection hy with hy; subst hy
      rfl
    · obtain ⟨i', e, c1, c2, c3, j', c4, c5, c6⟩ := b7 j y h0 hy
      have hne : i' ≠ i := fun h => hi y (List.mem_of_getElem? hy) (by rw [← h]; exact c1)
      have d1 := ih j' c4 _ c5
      have d2 : Cn n (l.eraseIdx i) y (oth e y) := (oth_eq (g (partOf n (l.eraseIdx i))) c3).1 (Cn.edge (hl.sub fun _ h => mem_erase h) (erase_mem c2 hne))
      unfold Cn at d1 d2 ⊢
      rw [d2, d1]

theorem g_set_ne {lead : List Int} {y : Int} {z : Int} {x : Int} (hx : InR lead.length x) (hne : x ≠ y) (hy : 0 ≤ y) : g (lead.set y.toNat z) x = g lead x := by
  rw [g_set _ _ _ _ hx, if_neg]
  unfold InR at hx; omega
theorem g_set_at {lead : List Int} {y : Int} {z : Int} (hy : InR lead.length y) : g (lead.set y.toNat z) y = z := by
  rw [g_set _ _ _ _ hy, if_pos rfl]

theorem Bf.fresh {n : Nat} {l : List PE} (hf : Fst n l) {v : Int} {lead os : List Int} {h : Nat} {S : List Nat} (hb : Bf n l v lead os h S) {x : Int} (hx : os[h]? = some x) {i : Nat} {e : PE} (hi : l[i]? = some e) (hex : e.1 = x ∨ e.2 = x) (hS : i ∉ S) (he : g lead x ≠ (i : Int)) : oth e x ∉ os := by
  intro hy
  have hbr := hf.bridge hi
  have key : ∀ z ∈ os, g lead z ≠ (i : Int) := by
    intro z hz hzi
    obtain ⟨j, hj⟩ := List.mem_iff_getElem?.1 hz
    obtain ⟨b1, b2, b3, b4, b5, b6, b7, b8⟩ := hb
    have h0 : 0 < j := by
      rcases Nat.eq_zero_or_pos j with h0 | h0
      · subst h0
        rw [b4] at hj; injection hj with hj; subst hj
        omega
      · exact h0
    obtain ⟨i', e', c1, c2, c3, j', c4, c5, c6⟩ := b7 j z h0 hj
    have : i' = i := by omega
    subst this
    rw [hi] at c2; injection c2 with c2; subst c2
    have hzx : z ≠ x := fun h => he (by rw [← h]; exact hzi)
    have hozx : oth e z = x := by
      rcases oth_cases hex with ⟨a1, a2⟩ | ⟨a1, a2⟩ <;> rcases oth_cases c3 with ⟨d1, d2⟩ | ⟨d1, d2⟩ <;> omega
    rw [hozx] at c5
    have := nd_at b2 c5 hx
    subst this
    rcases c6 with h | ⟨_, h⟩
    · omega
    · exact hS h
  obtain ⟨j, hj⟩ := List.mem_iff_getElem?.1 hy
  have d1 := hb.cn hf.1 key _ _ hj
  have d2 := hb.cn hf.1 key _ _ hx
  refine hbr.2 ((oth_eq (g (partOf n (l.eraseIdx i))) hex).2 ?_)
  unfold Cn at d1 d2
  rw [d2, d1]

theorem Bf.new {n : Nat} {l : List PE} (hf : Fst n l) {v : Int} {lead os : List Int} {h : Nat} {S : List Nat} (hb : Bf n l v lead os h S) {x : Int} (hx : os[h]? = some x) {i : Nat} {e : PE} (hi : l[i]? = some e) (hex : e.1 = x ∨ e.2 = x) (hS : i ∉ S) (he : g lead x ≠ (i : Int)) :
    Bf n l v (lead.set (oth e x).toNat (i : Int)) (os ++ [oth e x]) h (S ++ [i]) := by
  have hy := hb.fresh hf hx hi hex hS he
  have hyr := oth_in (hf.1 e (List.mem_of_getElem? hi)) x
  have hhx : e.1 = oth e x ∨ e.2 = oth e x := oth_end hex
  have hoo := oth_oth hex
  generalize oth e x = y at *
  obtain ⟨b1, b2, b3, b4, b5, b6, b7, b8⟩ := hb
  have hvo : v ∈ os := List.mem_of_getElem? b4
  have hlt := (List.getElem?_eq_some_iff.1 hx).1
  have keep : ∀ z ∈ os, g (lead.set y.toNat (i : Int)) z = g lead z := fun z hz => g_set_ne (by rw [b1]; exact b3 z hz) (fun h => hy (h ▸ hz)) hyr.1
  refine ⟨by simp [b1], ?_, ?_, ?_, ?_, ?_, ?_, ?_⟩
  · rw [List.nodup_append]
    exact ⟨b2, by simp, fun a ha b hb => by simp at hb; subst hb; exact fun h => hy (h ▸ ha)⟩
  · intro z hz
    rcases List.mem_append.1 hz with hz | hz
    · exact b3 z hz
    · simp at hz; subst hz; exact hyr
  · rw [List.getElem?_append_left (by omega)]; exact b4
  · rw [keep v hvo]; exact b5
  · intro z hzr hz
    rw [g_set_ne (by rw [b1]; exact hzr) (fun h => hz (by simp [h])) hyr.1]
    exact b6 z hzr fun h => hz (by simp [h])
  · intro j z h0 hj
    rcases Nat.lt_or_ge j os.length with hjl | hjl
    · rw [List.getElem?_append_left hjl] at hj
      obtain ⟨i', e', c1, c2, c3, j', c4, c5, c6⟩ := b7 j z h0 hj
      refine ⟨i', e', by rw [keep z (List.mem_of_getElem? hj)]; exact c1, c2, c3, j', c4, ?_, c6.imp id fun ⟨a, b⟩ => ⟨a, by simp [b]⟩⟩
      rw [List.getElem?_append_left (by omega)]; exact c5
    · rw [List.getElem?_append_right hjl] at hj
      have : j = os.length := by
        rcases Nat.lt_or_ge (j - os.length) 1 with h | h
        · omega
        · rw [List.getElem?_eq_none (by simp; omega)] at hj; cases hj
      subst this
      simp at hj; subst hj
      refine ⟨i, e, by rw [g_set_at (by rw [b1]; exact hyr)], hi, hhx, h, hlt, ?_, .inr ⟨rfl, by simp⟩⟩
      rw [hoo, List.getElem?_append_left hlt]; exact hx
  · intro j z hj i' e' h1 h2 h3
    have hjl : j < os.length := by omega
    rw [List.getElem?_append_left hjl] at hj
    rcases h3 with h3 | ⟨h3, h4⟩
    · exact List.mem_append_left _ (b8 j z hj i' e' h1 h2 (.inl h3))
    · rcases List.mem_append.1 h4 with h4 | h4
      · exact List.mem_append_left _ (b8 j z hj i' e' h1 h2 (.inr ⟨h3, h4⟩))
      · simp at h4
        subst h4 h3
        rw [hx] at hj; injection hj with hj; subst hj
        rw [hi] at h1; injection h1 with h1; subst h1
        have : oth e x = y := by
          rcases oth_cases hex with ⟨a1, a2⟩ | ⟨a1, a2⟩ <;> rcases oth_cases hhx with ⟨d1, d2⟩ | ⟨d1, d2⟩ <;> omega
        rw [this]; simp

theorem Bf.next {n : Nat} {l : List PE} {v : Int} {lead os : List Int} {h : Nat} {x : Int} (hx : os[h]? = some x) (hb : Bf n l v lead os h (starK l x l.length)) : Bf n l v lead os (h + 1) [] := by
  obtain ⟨b1, b2, b3, b4, b5, b6, b7, b8⟩ := hb
  refine ⟨b1, b2, b3, b4, b5, b6, fun j y hj hy => ?_, fun j y hj i e h1 h2 h3 => ?_⟩
  · obtain ⟨i', e', c1, c2, c3, j', c4, c5, c6⟩ := b7 j y hj hy
    exact ⟨i', e', c1, c2, c3, j', c4, c5, .inl (by omega)⟩
  · rcases h3 with h3 | ⟨_, h3⟩
    · rcases Nat.lt_or_ge j h with h4 | h4
      · exact b8 j y hj i e h1 h2 (.inl h4)
      · have : j = h := by omega
        subst this
        rw [hx] at hj; injection hj with hj; subst hj
        exact b8 j x hx i e h1 h2 (.inr ⟨rfl, starK_mem.2 ⟨e, h1, h2⟩⟩)
    · simp at h3
theorem Bf.len {n : Nat} {l : List PE} {v : Int} {lead os : List Int} {h : Nat} {S : List Nat} (hb : Bf n l v lead os h S) : os.length ≤ n := Nodup_inR hb.2.1 hb.2.2.1

/-- What the search has found when it is done. -/
def LeadOk (n : Nat) (l : List PE) (v : Int) (lead : List Int) : Prop :=
  lead.length = n ∧ ∃ d : Int → Nat, ∀ x, InR n x → x ≠ v →
    (Cn n l x v ∧ ∃ (i : Nat) (e : PE), g lead x = (i : Int) ∧ l[i]? = some e ∧ (e.1 = x ∨ e.2 = x) ∧ d (oth e x) < d x) ∨ (¬ Cn n l x v ∧ g lead x = -1)

theorem Bf.done {n : Nat} {l : List PE} (hl : MayL n l) {v : Int} {lead os : List Int} {h : Nat} (hv : InR n v) (hh : os.length ≤ h) (hb : Bf n l v lead os h []) : LeadOk n l v lead := by
  have hb' := hb
  obtain ⟨b1, b2, b3, b4, b5, b6, b7, b8⟩ := hb
  have cl : ∀ e ∈ l, (decide (e.1 ∈ os)) = decide (e.2 ∈ os) := by
    intro e he
    obtain ⟨i, hi⟩ := List.mem_iff_getElem?.1 he
    have key : ∀ x, (e.1 = x ∨ e.2 = x) → x ∈ os → oth e x ∈ os := by
      intro x hx hxo
      obtain ⟨j, hj⟩ := List.mem_iff_getElem?.1 hxo
      exact b8 j x hj i e hi hx (.inl (by have := (List.getElem?_eq_some_iff.1 hj).1; omega))
    have k1 := key e.1 (.inl rfl)
    have k2 := key e.2 (.inr rfl)
    have o1 : oth e e.1 = e.2 := by simp [oth]
    have o2 : oth e e.2 = e.1 := by unfold oth; split <;> omega
    rw [o1] at k1; rw [o2] at k2
    by_cases h1 : e.1 ∈ os
    · simp [h1, k1 h1]
    · have : ¬ e.2 ∈ os := fun h => h1 (k2 h)
      simp [h1, this]
  have hvo : v ∈ os := List.mem_of_getElem? b4
  refine ⟨b1, fun x => os.idxOf x, fun x hx hne => ?_⟩
  by_cases hxo : x ∈ os
  · left
    obtain ⟨j, hj⟩ := List.mem_iff_getElem?.1 hxo
    have hc : Cn n l x v := by
      have := Bf.cn hl hb' (i := l.length) (fun y hy he => by
        obtain ⟨j, hj⟩ := List.mem_iff_getElem?.1 hy
        rcases Nat.eq_zero_or_pos j with h0 | h0
        · subst h0; rw [b4] at hj; injection hj with hj; subst hj; omega
        · obtain ⟨i', e', c1, c2, _⟩ := b7 j y h0 hj
          have : i' = l.length := by omega
          subst this
          rw [List.getElem?_eq_none (Nat.le_refl _)] at c2; cases c2) j x hj
      rwa [List.eraseIdx_of_length_le (Nat.le_refl _)] at this
    have h0 : 0 < j := by
      rcases Nat.eq_zero_or_pos j with h0 | h0
      · subst h0; rw [b4] at hj; injection hj with hj; exact absurd hj.symm hne
      · exact h0
    obtain ⟨i, e, c1, c2, c3, j', c4, c5, _⟩ := b7 j x h0 hj
    have ix : ∀ {j : Nat} {x : Int}, os[j]? = some x → os.idxOf x = j := by
      intro j x hj
      obtain ⟨a, ha⟩ := List.getElem?_eq_some_iff.1 hj
      have h1 := b2.idxOf_getElem j a
      rw [ha] at h1
      exact h1
    exact ⟨hc, i, e, c1, c2, c3, by show os.idxOf (oth e x) < os.idxOf x; rw [ix c5, ix hj]; exact c4⟩
  · right
    refine ⟨fun hc => hxo ?_, b6 x hx hxo⟩
    have := Cn.univ (fun y => decide (y ∈ os)) hl cl hx hv hc
    simpa [hvo] using this

/-- A way on which a rank falls. -/
def Dn (l : List PE) (d : Int → Nat) : Int → List Nat → Int → Prop
  | u, [], v => u = v
  | u, i :: is, v => ∃ e, l[i]? = some e ∧ (e.1 = u ∨ e.2 = u) ∧ d (oth e u) < d u ∧ Dn l d (oth e u) is v
theorem Dn.snoc {l : List PE} {d : Int → Nat} {i : Nat} {e : PE} (he : l[i]? = some e) {x : Int} (hx : e.1 = x ∨ e.2 = x) (hd : d (oth e x) < d x) : ∀ {p : List Nat} {u : Int}, Dn l d u p x → Dn l d u (p ++ [i]) (oth e x)
  | [], u, h => by simp [Dn] at h; subst h; exact ⟨e, he, hx, hd, rfl⟩
  | j :: p, u, h => by
    obtain ⟨e', hd', hu, hlt, ht⟩ := h
    exact ⟨e', hd', hu, hlt, ht.snoc he hx hd⟩
theorem Dn.sm {l : List PE} {d : Int → Nat} {v : Int} : ∀ {p : List Nat} {u : Int}, Dn l d u p v → Sm l u p v ∧ ∀ x ∈ Vs l u p, d x ≤ d u
  | [], u, h => ⟨⟨h, by simp [Vs]⟩, by simp [Vs]⟩
  | j :: p, u, h => by
    obtain ⟨e, he, hu, hlt, ht⟩ := h
    obtain ⟨⟨h1, h2⟩, h3⟩ := ht.sm
    refine ⟨⟨⟨e, he, hu, h1⟩, ?_⟩, ?_⟩
    · simp only [Vs, he, List.nodup_cons]
      exact ⟨fun h => by have := h3 _ h; omega, h2⟩
    · intro x hx
      simp only [Vs, he, List.mem_cons] at hx
      rcases hx with rfl | hx
      · exact Nat.le_refl _
      · have := h3 x hx; omega
theorem Dn.len {l : List PE} {d : Int → Nat} {v : Int} : ∀ {p : List Nat} {u : Int}, Dn l d u p v → d v + p.length ≤ d u
  | [], u, h => by simp [Dn] at h; subst h; simp
  | j :: p, u, h => by
    obtain ⟨e, he, hu, hlt, ht⟩ := h
    have := ht.len
    simp; omega
/-- The edges at places. -/
def edsAt {α : Type} (l : List α) (p : List Nat) : List α := p.filterMap fun i => l[i]?
theorem edsAt_snoc {α : Type} (l : List α) (p : List Nat) {i : Nat} {e : α} (h : l[i]? = some e) : edsAt l (p ++ [i]) = edsAt l p ++ [e] := by simp [edsAt, h]
end Pt

set_option linter.unusedVariables false
namespace Md

/-- The prime. -/
def P : Nat := 2305843009213693951
theorem P_eq : P = 2305843009213693951 := rfl
theorem P_pos : 0 < P := by rw [P_eq]; omega
theorem one_lt : 1 < P := by rw [P_eq]; omega

def add (a b : Nat) : Nat := (a % P + b % P) % P
def sub (a b : Nat) : Nat := (a % P + P - b % P) % P
def mul (a b : Nat) : Nat := (a % P) * (b % P) % P
def pow (a n : Nat) : Nat := a ^ n % P
def inv (a : Nat) : Nat := a ^ (P - 2) % P

theorem add_eq (a b : Nat) : add a b = (a + b) % P := by unfold add; rw [← Nat.add_mod]
theorem mul_eq (a b : Nat) : mul a b = a * b % P := by unfold mul; rw [← Nat.mul_mod]
theorem add_lt (a b : Nat) : add a b < P := Nat.mod_lt _ P_pos
theorem sub_lt (a b : Nat) : sub a b < P := Nat.mod_lt _ P_pos
theorem mul_lt (a b : Nat) : mul a b < P := Nat.mod_lt _ P_pos
theorem pow_lt (a n : Nat) : pow a n < P := Nat.mod_lt _ P_pos
theorem inv_lt (a : Nat) : inv a < P := Nat.mod_lt _ P_pos
theorem of_of (a : Nat) : a % P % P = a % P := Nat.mod_mod _ _
theorem of_lt {a : Nat} (h : a < P) : a % P = a := Nat.mod_eq_of_lt h

/-! ## The round of Pow -/
def pw : Nat → Nat → Nat → Nat → Nat
  | 0, p, _, _ => p
  | f + 1, p, s, n => if n = 0 then p else pw f (if n % 2 = 1 then mul p s else p) (mul s s) (n / 2)
theorem pow_half (s n : Nat) : s ^ n = (if n % 2 = 1 then s else 1) * (s * s) ^ (n / 2) := by
  have h := Nat.div_add_mod n 2
  rw [← Nat.pow_two, ← Nat.pow_mul]
  split
  · rename_i h1
    rw [Nat.mul_comm s, ← Nat.pow_succ]; congr 1; omega
  · rw [Nat.one_mul]; congr 1; omega
/-- What a round of Pow leaves the same. -/
theorem pow_step (p s n : Nat) : (if n % 2 = 1 then mul p s else p) * mul s s ^ (n / 2) % P = p * s ^ n % P := by
  rw [pow_half s n]
  split
  · rw [mul_eq, mul_eq, Nat.mul_mod, Nat.mod_mod, ← Nat.pow_mod, ← Nat.mul_mod, Nat.mul_assoc]
  · rw [mul_eq, Nat.mul_mod, ← Nat.pow_mod, ← Nat.mul_mod, Nat.one_mul]
theorem pw_eq (f p s n : Nat) (h : n < 2 ^ f) : pw f p s n % P = p * s ^ n % P := by
  induction f generalizing p s n with
  | zero => 
    have : n = 0 := by simpa using h
    subst this; simp [pw]
  | succ f ih =>
    unfold pw
    split
    · rename_i h0; subst h0; simp
    · rw [ih _ _ _ (by rw [Nat.pow_succ] at h; omega), pow_step]
theorem pw_pow (a n : Nat) (h : n < 2 ^ 64) : pw 64 1 a n % P = pow a n := by
  rw [pw_eq 64 1 a n h, Nat.one_mul]; rfl

/-! ## Sums and products -/
theorem pow_add (a n m : Nat) : mul (pow a n) (pow a m) = pow a (n + m) := by
  unfold pow; rw [mul_eq, ← Nat.mul_mod, ← Nat.pow_add]
theorem pow_pow (a n m : Nat) : pow (pow a n) m = pow a (n * m) := by
  unfold pow; rw [← Nat.pow_mod, Nat.pow_mul]
theorem pow_of (a n : Nat) : pow (a % P) n = pow a n := by unfold pow; rw [← Nat.pow_mod]
theorem inv_pow (a : Nat) : inv a = pow a (P - 2) := rfl
theorem inv_of (a : Nat) : inv (a % P) = inv a := pow_of _ _
theorem add_of (a b : Nat) : add (a % P) (b % P) = add a b := by unfold add; rw [Nat.mod_mod, Nat.mod_mod]
theorem sub_of (a b : Nat) : sub (a % P) (b % P) = sub a b := by unfold sub; rw [Nat.mod_mod, Nat.mod_mod]
theorem mul_of (a b : Nat) : mul (a % P) (b % P) = mul a b := by unfold mul; rw [Nat.mod_mod, Nat.mod_mod]
theorem add_comm (a b : Nat) : add a b = add b a := by rw [add_eq, add_eq, Nat.add_comm]
theorem mul_comm (a b : Nat) : mul a b = mul b a := by rw [mul_eq, mul_eq, Nat.mul_comm]
theorem add_assoc (a b c : Nat) : add (add a b) c = add a (add b c) := by
  simp only [add_eq]; rw [Nat.mod_add_mod, Nat.add_mod_mod, Nat.add_assoc]
theorem mul_assoc (a b c : Nat) : mul (mul a b) c = mul a (mul b c) := by
  simp only [mul_eq]; rw [Nat.mod_mul_mod, Nat.mul_mod_mod, Nat.mul_assoc]
theorem add_mul (a b c : Nat) : mul (add a b) c = add (mul a c) (mul b c) := by
  simp only [mul_eq, add_eq]; rw [Nat.mod_mul_mod, ← Nat.add_mod, Nat.add_mul]
theorem sub_add (a b : Nat) : add (sub a b) b = a % P := by
  unfold add sub; rw [Nat.mod_mod]
  have h := Nat.mod_lt b P_pos
  have e : (a % P + P - b % P) + b % P = a % P + P := by omega
  rw [Nat.mod_add_mod, e, Nat.add_mod_right, Nat.mod_mod]
theorem add_sub (a b : Nat) : sub (add a b) b = a % P := by
  unfold sub
  rw [add_eq, Nat.mod_mod]
  have h := Nat.mod_lt b P_pos
  have h2 := Nat.div_add_mod b P
  have e : (a + b) % P + P - b % P = (a + b) % P + (P - b % P) := by omega
  rw [e, Nat.mod_add_mod]
  have e2 : a + b + (P - b % P) = a + P * (b / P) + P := by omega
  rw [e2, Nat.add_mod_right, Nat.add_mul_mod_self_left]
theorem sub_sub_ (x y b : Nat) : sub (add x b) (add y b) = sub x y := by
  have h : add (sub (add x b) (add y b)) (add y b) = add (sub x y) (add y b) := by
    rw [sub_add, ← add_assoc, sub_add, Nat.mod_eq_of_lt (add_lt _ _)]
    unfold add; rw [Nat.mod_mod]
  have h2 := congrArg (fun t => sub t (add y b)) h
  simp only [add_sub] at h2
  rwa [of_lt (sub_lt _ _), of_lt (sub_lt _ _)] at h2
theorem mul_sub (a x y : Nat) : mul a (sub x y) = sub (mul a x) (mul a y) := by
  have h : add (mul a (sub x y)) (mul a y) = mul a x := by
    rw [mul_comm a, mul_comm a y, ← add_mul, sub_add, mul_comm a x]
    unfold mul; rw [Nat.mod_mod]
  have h2 := add_sub (mul a (sub x y)) (mul a y)
  rw [h, of_lt (mul_lt _ _)] at h2
  exact h2.symm
theorem mul_one (a : Nat) : mul a 1 = a % P := by rw [mul_eq, Nat.mul_one]

/-! ## Fermat -/
theorem inj_surj (n : Nat) (f : Nat → Nat) (hlt : ∀ i, i < n → f i < n) (hinj : ∀ i j, i < n → j < n → f i = f j → i = j) : ∀ y, y < n → ∃ i, i < n ∧ f i = y := by
  induction n generalizing f with
  | zero => intro y h; omega
  | succ n ih =>
    have hg := ih (fun i => if f i = n then f n else f i) (by
      intro i hi
      show (if f i = n then f n else f i) < n
      split
      · rename_i h
        have h1 := hlt n (by omega)
        rcases Nat.lt_or_ge (f n) n with h2 | h2
        · exact h2
        · have := hinj i n (by omega) (by omega) (by omega); omega
      · have := hlt i (by omega); omega) (by
      intro i j hi hj h
      replace h : (if f i = n then f n else f i) = (if f j = n then f n else f j) := h
      by_cases h1 : f i = n
      · rw [if_pos h1] at h
        by_cases h2 : f j = n
        · exact hinj i j (by omega) (by omega) (by omega)
        · rw [if_neg h2] at h
          have := hinj n j (by omega) (by omega) h; omega
      · rw [if_neg h1] at h
        by_cases h2 : f j = n
        · rw [if_pos h2] at h
          have := hinj i n (by omega) (by omega) h; omega
        · rw [if_neg h2] at h
          exact hinj i j (by omega) (by omega) h)
    intro y hy
    by_cases hyn : f n = y
    · exact ⟨n, by omega, hyn⟩
    rcases Nat.lt_or_ge y n with h | h
    · obtain ⟨i, hi, he⟩ := hg y h
      by_cases h1 : f i = n
      · rw [if_pos h1] at he; exact absurd he hyn
      · rw [if_neg h1] at he; exact ⟨i, by omega, he⟩
    · have : y = n := by omega
      subst this
      have h1 := hlt y (by omega)
      obtain ⟨i, hi, he⟩ := hg (f y) (by omega)
      replace he : (if f i = y then f y else f i) = f y := he
      by_cases h2 : f i = y
      · exact ⟨i, by omega, h2⟩
      · rw [if_neg h2] at he
        have := hinj i y (by omega) (by omega) he; omega

/-- A number all of whose powers but the last differ. -/
def gen : Nat := 37
def N : Nat := P - 1
theorem pwd (a n r : Nat) (h : n < 2 ^ 64) (e : pw 64 1 a n % P = r) : a ^ n % P = r := by rw [← e, pw_pow a n h]; rfl
theorem gen_N : gen ^ N % P = 1 := pwd _ _ _ (by decide) (by decide +kernel)
def qs : List Nat := [2, 3, 5, 7, 11, 13, 31, 41, 61, 151, 331, 1321]
theorem gen_q : ∀ q ∈ qs, gen ^ (N / q) % P ≠ 1 := by
  intro q hq
  have key : ∀ q ∈ qs, pw 64 1 gen (N / q) % P ≠ 1 := by decide +kernel
  have hb : N / q < 2 ^ 64 := Nat.lt_of_le_of_lt (Nat.div_le_self _ _) (by decide)
  rw [pwd gen (N / q) _ hb rfl]
  exact key q hq
theorem N_fac : N = 2 * 3 * 3 * 5 * 5 * 7 * 11 * 13 * 31 * 41 * 61 * 151 * 331 * 1321 := by decide +kernel
theorem cop_of {m q : Nat} (hq : ∀ d, d ∣ q → d = 1 ∨ d = q) (h : ¬ q ∣ m) : Nat.gcd m q = 1 := by
  rcases hq _ (Nat.gcd_dvd_right m q) with h1 | h1
  · exact h1
  · exact absurd (h1 ▸ Nat.gcd_dvd_left m q) h
theorem small_prime : ∀ q ∈ qs, ∀ d, d ∣ q → d = 1 ∨ d = q := by
  intro q hq d hd
  have key : ∀ q ∈ qs, q ≤ 1321 ∧ 0 < q := by decide
  have hle := Nat.le_of_dvd (key q hq).2 hd
  have key2 : ∀ q ∈ qs, ∀ d, d < 1322 → q % d = 0 → d = 1 ∨ d = q := by decide +kernel
  exact key2 q hq d (by have := (key q hq).1; omega) (Nat.mod_eq_zero_of_dvd hd)
/-- A proper part of N is a part of N / q for some prime q. -/
theorem exists_q {m : Nat} (h : m ∣ N) (h1 : m ≠ 1) : ∃ q ∈ qs, q ∣ m := by
  apply Classical.byContradiction
  intro hn
  have hc : ∀ q ∈ qs, Nat.gcd m q = 1 := fun q hq => cop_of (small_prime q hq) (fun hd => hn ⟨q, hq, hd⟩)
  have c : ∀ a b, Nat.gcd m a = 1 → Nat.gcd m b = 1 → Nat.gcd m (a * b) = 1 := fun a b ha hb => Nat.Coprime.mul_right ha hb
  have key : Nat.gcd m N = 1 := by
    rw [N_fac]
    have g := fun q (h : q ∈ qs) => hc q h
    refine c _ _ (c _ _ (c _ _ (c _ _ (c _ _ (c _ _ (c _ _ (c _ _ (c _ _ (c _ _ (c _ _ (c _ _ (c _ _ ?_ ?_) ?_) ?_) ?_) ?_) ?_) ?_) ?_) ?_) ?_) ?_) ?_) ?_
    all_goals exact hc _ (by decide)
  have := Nat.gcd_eq_left h
  omega
theorem cycle (d e : Nat) (hd : gen ^ d % P = 1) (he : gen ^ e % P = 1) : gen ^ Nat.gcd d e % P = 1 := by
  induction d, e using Nat.gcd.induction with
  | H0 n => rw [Nat.gcd_zero_left]; exact he
  | H1 m n hm ih =>
    rw [Nat.gcd_rec]
    refine ih ?_ hd
    have h := Nat.div_add_mod n m
    rw [← h, Nat.pow_add, Nat.pow_mul, Nat.mul_mod, Nat.pow_mod (gen ^ m), hd, Nat.one_pow, Nat.mod_eq_of_lt one_lt, Nat.one_mul, Nat.mod_mod] at he
    exact he
theorem no_cycle (d : Nat) (h0 : 0 < d) (hN : d < N) : gen ^ d % P ≠ 1 := by
  intro hd
  have hg := cycle d N hd gen_N
  have h1 := Nat.gcd_dvd_right d N
  have h2 := Nat.le_of_dvd h0 (Nat.gcd_dvd_left d N)
  obtain ⟨m, hm⟩ := h1
  generalize Nat.gcd d N = t at *
  have hm1 : m ≠ 1 := by rintro rfl; omega
  obtain ⟨q, hq, k, hk⟩ := exists_q (m := m) ⟨t, by rw [hm, Nat.mul_comm]⟩ hm1
  have hq0 : 0 < q := by
    have key : ∀ q ∈ qs, 0 < q := by decide
    exact key q hq
  refine gen_q q hq ?_
  have e : N / q = t * k := by
    rw [hm, hk, ← Nat.mul_assoc, Nat.mul_comm t q, Nat.mul_assoc, Nat.mul_div_cancel_left _ hq0]
  rw [e, Nat.pow_mul, Nat.pow_mod, hg, Nat.one_pow, Nat.mod_eq_of_lt one_lt]
theorem cancel (i j : Nat) (h : i ≤ j) (hj : j ≤ N) (he : gen ^ i % P = gen ^ j % P) : gen ^ (j - i) % P = 1 := by
  have e : gen ^ (N - i) * gen ^ i % P = gen ^ (N - i) * gen ^ j % P := by
    rw [Nat.mul_mod, he, ← Nat.mul_mod]
  rw [← Nat.pow_add, ← Nat.pow_add, show N - i + i = N by omega, show N - i + j = N + (j - i) by omega, gen_N, Nat.pow_add, Nat.mul_mod, gen_N, Nat.one_mul, Nat.mod_mod] at e
  exact e.symm
theorem inj_pow (i j : Nat) (hi : i < N) (hj : j < N) (h : gen ^ i % P = gen ^ j % P) : i = j := by
  rcases Nat.lt_trichotomy i j with h1 | h1 | h1
  · exact absurd (cancel i j (by omega) (by omega) h) (no_cycle _ (by omega) (by omega))
  · exact h1
  · exact absurd (cancel j i (by omega) (by omega) h.symm) (no_cycle _ (by omega) (by omega))
theorem pow_ne (i : Nat) (hi : i < N) : gen ^ i % P ≠ 0 := by
  intro h
  have e : gen ^ (N - i) * gen ^ i % P = 0 := by rw [Nat.mul_mod, h, Nat.mul_zero, Nat.zero_mod]
  rw [← Nat.pow_add, show N - i + i = N by omega, gen_N] at e
  omega
theorem N_eq : N = P - 1 := rfl
theorem is_pow (b : Nat) (h0 : b % P ≠ 0) : ∃ k, k < N ∧ gen ^ k % P = b % P := by
  have hb := Nat.mod_lt b P_pos
  have hN := N_eq
  obtain ⟨k, hk, he⟩ := inj_surj N (fun i => gen ^ i % P - 1) (fun i hi => by
      show gen ^ i % P - 1 < N
      have := Nat.mod_lt (gen ^ i) P_pos; have := pow_ne i hi; omega) (fun i j hi hj h => by
      replace h : gen ^ i % P - 1 = gen ^ j % P - 1 := h
      have := pow_ne i hi; have := pow_ne j hj
      exact inj_pow i j hi hj (by omega)) (b % P - 1) (by omega)
  replace he : gen ^ k % P - 1 = b % P - 1 := he
  have := pow_ne k hk
  exact ⟨k, hk, by omega⟩
/-- Fermat. -/
theorem fermat (b : Nat) (h : b % P ≠ 0) : b ^ N % P = 1 := by
  obtain ⟨k, hk, he⟩ := is_pow b h
  rw [Nat.pow_mod, ← he, ← Nat.pow_mod, ← Nat.pow_mul, Nat.mul_comm, Nat.pow_mul, Nat.pow_mod, gen_N, Nat.one_pow, Nat.mod_eq_of_lt one_lt]
theorem mul_inv_g (b k : Nat) (hk : k + 1 = N) (h : b % P ≠ 0) : mul b (b ^ k % P) = 1 := by
  rw [mul_eq, Nat.mul_mod_mod, Nat.mul_comm, ← Nat.pow_succ]
  rw [show k.succ = N from hk, fermat b h]
theorem mul_inv (b : Nat) (h : b % P ≠ 0) : mul b (inv b) = 1 := mul_inv_g b (P - 2) (by rw [N_eq, P_eq]) h
theorem inv_zero_g (b k : Nat) (h : b % P = 0) (hk : 0 < k) : b ^ k % P = 0 := by
  obtain ⟨j, rfl⟩ : ∃ j, k = j + 1 := ⟨k - 1, by omega⟩
  rw [Nat.pow_mod, h, Nat.pow_succ, Nat.mul_zero, Nat.zero_mod]
theorem inv_zero (b : Nat) (h : b % P = 0) : inv b = 0 := inv_zero_g b (P - 2) h (by rw [P_eq]; omega)
theorem inv_eval (a r : Nat) (h : pw 64 1 a (P - 2) % P = r) : inv a = r := pwd a (P - 2) r (by decide) h
theorem inv_ne (b : Nat) (h : b % P ≠ 0) : inv b % P ≠ 0 := by
  intro h0
  have := mul_inv b h
  unfold mul at this
  rw [h0, Nat.mul_zero, Nat.zero_mod] at this
  omega
theorem mul_back (a b : Nat) (h : b % P ≠ 0) : mul (mul a b) (inv b) = a % P := by
  rw [mul_assoc, mul_inv b h, mul_one]
theorem inv_inv (b : Nat) (h : b % P ≠ 0) : inv (inv b) = b % P := by
  have h1 := mul_back b (inv b) (inv_ne b h)
  rw [mul_inv b h] at h1
  rw [mul_comm, mul_one, of_lt (inv_lt _)] at h1
  exact h1
theorem inv_two : inv 2 = 1152921504606846976 := by
  exact inv_eval 2 _ (by decide +kernel)
theorem half_twice (a : Nat) : add (mul a (inv 2)) (mul a (inv 2)) = a % P := by
  rw [inv_two, add_eq, ← Nat.two_mul, mul_eq, Nat.mul_mod_mod, show 2 * (a * 1152921504606846976) = a + P * a by rw [P_eq]; omega, Nat.add_mul_mod_self_left]
theorem twice (a : Nat) : add a a = mul 2 a := by rw [add_eq, mul_eq, Nat.two_mul]
theorem mul_zero (a b : Nat) (h : b % P = 0) : mul a b = 0 := by unfold mul; rw [h, Nat.mul_zero, Nat.zero_mod]
end Md

set_option linter.unusedVariables false
namespace Md

/-- A round of the reference's product: one bit more of b. -/
theorem bit_step (a b k : Nat) : (if b / 2 ^ k % 2 = 1 then add (add (a * (b / 2 ^ (k + 1)) % P) (a * (b / 2 ^ (k + 1)) % P)) a else add (a * (b / 2 ^ (k + 1)) % P) (a * (b / 2 ^ (k + 1)) % P)) = a * (b / 2 ^ k) % P := by
  have h := Nat.div_add_mod (b / 2 ^ k) 2
  have e : b / 2 ^ (k + 1) = b / 2 ^ k / 2 := by rw [Nat.pow_succ, Nat.div_div_eq_div_mul]
  rw [e]
  generalize b / 2 ^ k = c at *
  have hm := Nat.mod_lt c (show 0 < 2 by omega)
  split
  · rename_i h1
    rw [h1] at h
    rw [add_eq, add_eq, ← Nat.add_mod, Nat.mod_add_mod]
    congr 1
    rw [← Nat.mul_add, ← Nat.mul_add_one]; congr 1; omega
  · rename_i h1
    rw [add_eq, ← Nat.add_mod]
    congr 1
    rw [← Nat.mul_add]; congr 1; omega
theorem bit_start (a b : Nat) (h : b < 2 ^ 61) : a * (b / 2 ^ 61) % P = 0 := by
  rw [Nat.div_eq_of_lt h, Nat.mul_zero, Nat.zero_mod]
theorem bit_end (a b : Nat) : (a % P) * (b % P / 2 ^ 0) % P = mul a b := by rw [Nat.pow_zero, Nat.div_one]; rfl

/-! ## Division of 128 bits by P: the school's steps, at base 2^32 -/
/-- q is no less than the quotient, and what it leaves is r. -/
def QR (u v q r : Nat) : Prop := q * 4294967295 + r = u ∧ (u * 4294967296 + v) / 18446744073709551608 ≤ q ∧ q ≤ 4294967297
theorem qr_start (u v : Nat) (hu : u < 18446744073709551608) (hv : v < 4294967296) : QR u v (u / 4294967295) (u - u / 4294967295 * 4294967295) := by
  refine ⟨by omega, ?_, by omega⟩
  omega
theorem qr_down {u v q r : Nat} (hu : u < 18446744073709551608) (hv : v < 4294967296) (h : QR u v q r) (ht : 4294967296 ≤ q ∨ 4294967296 * r + v < q * 4294967288) : 0 < q ∧ QR u v (q - 1) (r + 4294967295) := by
  obtain ⟨h1, h2, h3⟩ := h
  unfold QR
  omega
theorem qr_stop {u v q r : Nat} (hu : u < 18446744073709551608) (hv : v < 4294967296) (h : QR u v q r) (ht : ¬ (4294967296 * r + v < q * 4294967288)) : q = (u * 4294967296 + v) / 18446744073709551608 := by
  obtain ⟨h1, h2, h3⟩ := h
  omega
theorem qr_break {u v q r : Nat} (hu : u < 18446744073709551608) (hv : v < 4294967296) (h : QR u v q r) (hq : q ≤ 4294967296) (hr : 4294967296 ≤ r) : q = (u * 4294967296 + v) / 18446744073709551608 := by
  obtain ⟨h1, h2, h3⟩ := h
  omega
/-- What is left of the first step, and of the second. -/
theorem left_one (u v q : Nat) (hu : u < 18446744073709551608) (hv : v < 4294967296) (hq : q = (u * 4294967296 + v) / 18446744073709551608) :
    u * 4294967296 + v - q * 18446744073709551608 = (u * 4294967296 + v) % 18446744073709551608 ∧ q * 18446744073709551608 ≤ u * 4294967296 + v := by omega
theorem rem_all (hi lo : Nat) (h : hi < 2305843009213693951) (hl : lo < 18446744073709551616) (u un10 un1 un0 r1 r2 : Nat) (hu : u = hi * 8 + lo / 2305843009213693952) (h10 : un10 = lo * 8 % 18446744073709551616)
    (h1 : un1 = un10 / 4294967296) (h0 : un0 = un10 % 4294967296) (hr1 : r1 = (u * 4294967296 + un1) % 18446744073709551608) (hr2 : r2 = (r1 * 4294967296 + un0) % 18446744073709551608) :
    r2 / 8 = (hi * 18446744073709551616 + lo) % 2305843009213693951 := by
  subst hu h10 h1 h0 hr1 hr2
  omega
end Md

/- Bytes: numbers in bytes and back; the sum of bytes. -/
set_option linter.unusedVariables false
namespace Sn
abbrev By := List UInt8
/-- A number in k bytes, the lowest first. -/
def enc : Nat → Nat → By
  | _, 0 => []
  | n, k + 1 => UInt8.ofNat (n % 256) :: enc (n / 256) k
def dec : By → Nat
  | [] => 0
  | b :: l => b.toNat + 256 * dec l
theorem enc_len (n k : Nat) : (enc n k).length = k := by
  induction k generalizing n with
  | zero => rfl
  | succ k ih => simp [enc, ih]
theorem dec_enc (n k : Nat) (h : n < 256 ^ k) : dec (enc n k) = n := by
  induction k generalizing n with
  | zero => simp at h; simp [enc, dec, h]
  | succ k ih =>
    have h2 : n / 256 < 256 ^ k := by
      rw [Nat.div_lt_iff_lt_mul (by omega)]
      rw [Nat.pow_succ] at h
      exact h
    simp only [enc, dec, ih _ h2, UInt8.toNat_ofNat']
    omega
theorem dec_lt (l : By) : dec l < 256 ^ l.length := by
  induction l with
  | nil => simp [dec]
  | cons b l ih =>
    have := b.toNat_lt
    simp only [dec, List.length_cons, Nat.pow_succ]
    omega
theorem enc_dec (l : By) : enc (dec l) l.length = l := by
  induction l with
  | nil => rfl
  | cons b l ih =>
    have hb := b.toNat_lt
    have h1 : (b.toNat + 256 * dec l) % 256 = b.toNat := by omega
    have h2 : (b.toNat + 256 * dec l) / 256 = dec l := by omega
    simp only [List.length_cons, dec, enc, h1, h2, ih]
    simp
theorem enc_inj {a b k : Nat} (ha : a < 256 ^ k) (hb : b < 256 ^ k) (h : enc a k = enc b k) : a = b := by
  rw [← dec_enc a k ha, ← dec_enc b k hb, h]
theorem enc_snoc (n k : Nat) : enc n (k + 1) = enc n k ++ [UInt8.ofNat (n / 256 ^ k % 256)] := by
  induction k generalizing n with
  | zero => simp [enc]
  | succ k ih =>
    rw [show enc n (k + 1 + 1) = UInt8.ofNat (n % 256) :: enc (n / 256) (k + 1) from rfl, ih, show enc n (k + 1) = UInt8.ofNat (n % 256) :: enc (n / 256) k from rfl]
    rw [Nat.div_div_eq_div_mul, Nat.pow_succ, Nat.mul_comm 256]
    rfl
/-- The sum of bytes. -/
def P : Nat := 2305843009213693951
def step (s : Nat) (b : UInt8) : Nat := (s * 257 + (b.toNat + 1)) % P
def sumF (s : Nat) (l : By) : Nat := l.foldl step s
def sum (l : By) : Nat := sumF 1 l
theorem sum_snoc (l : By) (b : UInt8) : sum (l ++ [b]) = step (sum l) b := by simp [sum, sumF]
theorem sumF_app (s : Nat) (a b : By) : sumF s (a ++ b) = sumF (sumF s a) b := by simp [sumF]
theorem step_lt (s : Nat) (b : UInt8) : step s b < P := Nat.mod_lt _ (by decide)
theorem sumF_lt {s : Nat} (h : s < P) (l : By) : sumF s l < P := by
  induction l generalizing s with
  | nil => exact h
  | cons b l ih => exact ih (step_lt s b)
theorem sum_lt (l : By) : sum l < P := sumF_lt (by decide) l
theorem sum_nil : sum [] = 1 := rfl
/-- 257 may be divided by. -/
theorem dvd_small {P : Nat} {d t : Int} (h : d = (P : Int) * t) (h1 : -(P : Int) < d) (h2 : d < (P : Int)) : d = 0 := by
  have hP : (0 : Int) ≤ (P : Int) := Int.natCast_nonneg P
  rcases Int.lt_trichotomy t 0 with h3 | h3 | h3
  · have := Int.mul_le_mul_of_nonneg_left (show t ≤ -1 by omega) hP
    omega
  · rw [h, h3, Int.mul_zero]
  · have := Int.mul_le_mul_of_nonneg_left (show 1 ≤ t by omega) hP
    omega
theorem mod_sub {P x y : Nat} (h : x % P = y % P) : ∃ t : Int, (x : Int) - y = (P : Int) * t := by
  have e1 := Nat.div_add_mod x P
  have e2 := Nat.div_add_mod y P
  rw [h] at e1
  refine ⟨((x / P : Nat) : Int) - ((y / P : Nat) : Int), ?_⟩
  rw [Int.mul_sub, ← Int.natCast_mul, ← Int.natCast_mul]
  omega
theorem inv_gen {P K m : Nat} (hK : 257 * K = 1 + P * m) {a b c : Nat} (ha : a < P) (hb : b < P) (h : (a * 257 + c) % P = (b * 257 + c) % P) : a = b := by
  obtain ⟨q, hq⟩ := mod_sub h
  have h1 : ((a : Int) - b) * 257 = (P : Int) * q := by
    rw [← hq]; omega
  have hK2 : (257 : Int) * (K : Int) = 1 + (P : Int) * (m : Int) := by
    have := congrArg (Int.ofNat) hK
    simpa using this
  have h2 : (a : Int) - b = (P : Int) * (q * K - m * ((a : Int) - b)) := by
    have e : ((a : Int) - b) * 257 * K = (P : Int) * q * K := by rw [h1]
    rw [Int.mul_assoc, hK2, Int.mul_add, Int.mul_one] at e
    rw [Int.mul_sub, ← Int.mul_assoc, ← e, ← Int.mul_assoc (P : Int), Int.mul_comm ((a : Int) - b)]
    omega
  have := dvd_small h2 (by omega) (by omega)
  omega
theorem add_gen {P z u v : Nat} (hu : u < P) (hv : v < P) (h : (z + u) % P = (z + v) % P) : u = v := by
  obtain ⟨q, hq⟩ := mod_sub h
  have h2 : (u : Int) - v = (P : Int) * q := by rw [← hq]; omega
  have := dvd_small h2 (by omega) (by omega)
  omega
theorem inv257 (a b : Nat) (ha : a < P) (hb : b < P) (c : Nat) (h : (a * 257 + c) % P = (b * 257 + c) % P) : a = b :=
  inv_gen (P := P) (K := 1327878464449909357) (m := 148) (by decide) ha hb h
theorem step_inj {a b : Nat} (ha : a < P) (hb : b < P) (x : UInt8) (h : step a x = step b x) : a = b := inv257 a b ha hb _ h
theorem sumF_inj {a b : Nat} (ha : a < P) (hb : b < P) (l : By) (h : sumF a l = sumF b l) : a = b := by
  induction l generalizing a b with
  | nil => exact h
  | cons x l ih => exact step_inj ha hb x (ih (step_lt a x) (step_lt b x) h)
theorem small_P {n : Nat} (h : n < 257) : n < P := Nat.lt_of_lt_of_le h (by decide)
theorem step_inj2 {a : Nat} {x y : UInt8} (h : step a x = step a y) : x = y := by
  have hx := x.toNat_lt
  have hy := y.toNat_lt
  have := add_gen (P := P) (small_P (by omega)) (small_P (by omega)) h
  exact UInt8.toNat_inj.1 (by omega)
/-- One byte that is changed makes another sum. -/
theorem sum_changed (a b : By) {x y : UInt8} (h : x ≠ y) : sum (a ++ x :: b) ≠ sum (a ++ y :: b) := by
  intro e
  unfold sum at e
  rw [sumF_app, sumF_app] at e
  have e2 : sumF (step (sumF 1 a) x) b = sumF (step (sumF 1 a) y) b := e
  exact h (step_inj2 (sumF_inj (step_lt _ _) (step_lt _ _) b e2))
theorem mod1 (x k y : Nat) : (x % P * k + y) % P = (x * k + y) % P := by
  rw [Nat.add_mod, Nat.mul_mod, Nat.mod_mod, ← Nat.mul_mod, ← Nat.add_mod]
theorem mod2 (z y : Nat) : (z + y % P) % P = (z + y) % P := by rw [Nat.add_mod, Nat.mod_mod, ← Nat.add_mod]
theorem sumF_off (s : Nat) (l : By) : sumF s l % P = (s * 257 ^ l.length + sumF 0 l) % P := by
  induction l generalizing s with
  | nil => simp [sumF]
  | cons b l ih =>
    show sumF (step s b) l % P = (s * 257 ^ (l.length + 1) + sumF (step 0 b) l) % P
    rw [ih (step s b), ← mod2 (s * 257 ^ (l.length + 1)), ih (step 0 b), mod2]
    unfold step
    rw [mod1, ← mod2 _ ((0 * 257 + (b.toNat + 1)) % P * 257 ^ l.length + sumF 0 l), mod1, mod2]
    congr 1
    rw [Nat.zero_mul, Nat.zero_add, Nat.pow_succ, Nat.add_mul, Nat.add_assoc, Nat.mul_assoc, Nat.mul_comm 257]
theorem sum_app (a b : By) : sum (a ++ b) = ((sum a + (P - 1)) % P * (257 ^ b.length % P) % P + sum b) % P := by
  have h1 : sum (a ++ b) = sumF (sum a) b := by unfold sum; rw [sumF_app]
  have h2 := sumF_off (sum a) b
  have h3 := sumF_off 1 b
  rw [Nat.mod_eq_of_lt (sumF_lt (sum_lt a) b)] at h2
  have h4 : sum b % P = (1 * 257 ^ b.length + sumF 0 b) % P := h3
  rw [h1, h2]
  rw [← mod2 _ (sum b), h4, mod2, ← Nat.mul_mod]
  rw [← Nat.one_mul (((sum a + (P - 1)) * 257 ^ b.length) % P), Nat.mul_comm 1, mod1, Nat.mul_one]
  have e : (sum a + (P - 1)) * 257 ^ b.length + (1 * 257 ^ b.length + sumF 0 b) = sum a * 257 ^ b.length + sumF 0 b + P * 257 ^ b.length := by
    have hP : P = P - 1 + 1 := by decide
    rw [Nat.add_mul, Nat.one_mul]
    have : P * 257 ^ b.length = (P - 1) * 257 ^ b.length + 257 ^ b.length := by
      rw [← Nat.succ_mul]; rfl
    omega
  rw [e, Nat.add_mul_mod_self_left]
end Sn

/- States and their bytes. -/
set_option linter.unusedVariables false
namespace Sn
/-- A state. -/
structure St where
  N : Int
  L : Int
  R : Int
  hs : List (Int × Int)
  es : List (Int × Int × Int)
  ss : List (Bool × Int)
/-- The bytes of a text from a place on. -/
def part (l : By) (at_ k : Nat) : By := (l.drop at_).take k
theorem part_len {l : By} {at_ k : Nat} (h : at_ + k ≤ l.length) : (part l at_ k).length = k := by simp [part]; omega
theorem part_mid (a b c : By) (off k : Nat) (h : off + k ≤ b.length) : part (a ++ (b ++ c)) (a.length + off) k = part b off k := by
  unfold part
  rw [List.drop_append, List.drop_of_length_le (by omega), List.nil_append, show a.length + off - a.length = off by omega, List.drop_append_of_le_length (by omega), List.take_append_of_le_length (by simp; omega)]
theorem part_all (b : By) {k : Nat} (h : b.length = k) : part b 0 k = b := by
  unfold part; rw [List.drop_zero, List.take_of_length_le (by omega)]
theorem part_app_r (a b : By) (off k : Nat) : part (a ++ b) (a.length + off) k = part b off k := by
  unfold part
  rw [List.drop_append, List.drop_of_length_le (by omega), List.nil_append, show a.length + off - a.length = off by omega]
theorem part_app_l (a b : By) (off k : Nat) (h : off + k ≤ a.length) : part (a ++ b) off k = part a off k := by
  unfold part
  rw [List.drop_append_of_le_length (by omega), List.take_append_of_le_length (by simp; omega)]
/-- Rows of one width, one behind the other. -/
theorem flat_len {α : Type} (f : α → By) (w : Nat) (hf : ∀ x, (f x).length = w) (l : List α) : (l.flatMap f).length = w * l.length := by
  induction l with
  | nil => simp
  | cons a l ih => simp only [List.flatMap_cons, List.length_append, hf, ih, List.length_cons]; rw [Nat.mul_add]; omega
theorem flat_part {α : Type} (f : α → By) (w : Nat) (hf : ∀ x, (f x).length = w) (l : List α) (i : Nat) (hi : i < l.length) (off k : Nat) (h : off + k ≤ w) : part (l.flatMap f) (w * i + off) k = part (f l[i]) off k := by
  induction l generalizing i with
  | nil => simp at hi
  | cons a l ih =>
    cases i with
    | zero =>
      simp only [List.flatMap_cons, List.getElem_cons_zero, Nat.mul_zero, Nat.zero_add]
      exact part_app_l _ _ _ _ (by rw [hf]; exact h)
    | succ i =>
      simp only [List.flatMap_cons, List.getElem_cons_succ]
      have e : w * (i + 1) + off = (f a).length + (w * i + off) := by rw [hf, Nat.mul_add]; omega
      rw [e, part_app_r]
      exact ih i (by simpa using hi)
def encI (n : Int) (k : Nat) : By := enc n.toNat k
theorem encI_len (n : Int) (k : Nat) : (encI n k).length = k := enc_len _ _
theorem dec_encI {n : Int} {k : Nat} (h0 : 0 ≤ n) (h : n < (256 ^ k : Nat)) : ((dec (encI n k) : Nat) : Int) = n := by
  unfold encI
  rw [dec_enc _ _ (by omega)]
  omega
def hB (h : Int × Int) : By := encI h.1 8 ++ encI h.2 8
def sB (s : Bool × Int) : By := enc (if s.1 then 1 else 0) 1 ++ encI s.2 8
def eB (e : Int × Int × Int) : By := encI e.1 2 ++ (encI e.2.1 2 ++ encI e.2.2 1)
theorem hB_len (h : Int × Int) : (hB h).length = 16 := by simp [hB, encI_len]
theorem sB_len (s : Bool × Int) : (sB s).length = 9 := by simp [sB, encI_len, enc_len]
theorem eB_len (e : Int × Int × Int) : (eB e).length = 5 := by simp [eB, encI_len]
def mark : By := [82, 65, 70, 84]
def head (s : St) : By := mark ++ (encI s.N 2 ++ (encI s.L 2 ++ encI s.R 2))
def body (s : St) : By := head s ++ (s.hs.flatMap hB ++ (s.ss.flatMap sB ++ (enc s.es.length 4 ++ s.es.flatMap eB)))
def save (s : St) : By := body s ++ enc (sum (body s)) 8
theorem head_len (s : St) : (head s).length = 10 := by simp [head, mark, encI_len]
theorem body_len (s : St) : (body s).length = 14 + 16 * s.hs.length + 9 * s.ss.length + 5 * s.es.length := by
  unfold body
  simp only [List.length_append, head_len, flat_len hB 16 hB_len, flat_len sB 9 sB_len, flat_len eB 5 eB_len, enc_len]
  omega
theorem save_len (s : St) : (save s).length = 22 + 16 * s.hs.length + 9 * s.ss.length + 5 * s.es.length := by
  unfold save
  rw [List.length_append, body_len, enc_len]; omega
/-! ## Back -/
def num (b : By) (at_ k : Nat) : Nat := dec (part b at_ k)
def fixedOf (N L R : Nat) : Nat := 14 + L * R * 16 + N * 9
def hOf (b : By) (i : Nat) : Int × Int := ((num b (10 + 16 * i) 8 : Nat), (num b (10 + 16 * i + 8) 8 : Nat))
def sOf (b : By) (at_ i : Nat) : Bool × Int := (b.getD (at_ + 9 * i) 0 == 1, (num b (at_ + 9 * i + 1) 8 : Nat))
def eOf (b : By) (at_ i : Nat) : Int × Int × Int := ((num b (at_ + 5 * i) 2 : Nat), (num b (at_ + 5 * i + 2) 2 : Nat), ((b.getD (at_ + 5 * i + 4) 0).toNat : Int))
/-- Are there as many bytes as they say? -/
def Fits (b : By) : Prop :=
  10 ≤ b.length ∧ num b 4 2 ≤ 1024 ∧ num b 6 2 ≤ 16 ∧ num b 8 2 ≤ 8 ∧ fixedOf (num b 4 2) (num b 6 2) (num b 8 2) + 8 ≤ b.length ∧
    (b.length - fixedOf (num b 4 2) (num b 6 2) (num b 8 2) - 8) % 5 = 0 ∧ num b (fixedOf (num b 4 2) (num b 6 2) (num b 8 2) - 4) 4 = (b.length - fixedOf (num b 4 2) (num b 6 2) (num b 8 2) - 8) / 5
instance (b : By) : Decidable (Fits b) := by unfold Fits; infer_instance
/-- What the bytes say. -/
def told (b : By) : St :=
  { N := (num b 4 2 : Nat), L := (num b 6 2 : Nat), R := (num b 8 2 : Nat),
    hs := (List.range (num b 6 2 * num b 8 2)).map (hOf b),
    ss := (List.range (num b 4 2)).map (sOf b (10 + num b 6 2 * num b 8 2 * 16)),
    es := (List.range ((b.length - fixedOf (num b 4 2) (num b 6 2) (num b 8 2) - 8) / 5)).map (eOf b (fixedOf (num b 4 2) (num b 6 2) (num b 8 2))) }
/-- What has such bytes as can be read again. -/
structure Ok (s : St) : Prop where
  n0 : 0 ≤ s.N
  n1 : s.N ≤ 1024
  l0 : 0 ≤ s.L
  l1 : s.L ≤ 16
  r0 : 0 ≤ s.R
  r1 : s.R ≤ 8
  hl : (s.hs.length : Int) = s.L * s.R
  sl : (s.ss.length : Int) = s.N
  el : s.es.length < 4294967296
  hb : ∀ i, (h : i < s.hs.length) → (0 ≤ s.hs[i].1 ∧ s.hs[i].1 < 18446744073709551616) ∧ 0 ≤ s.hs[i].2 ∧ s.hs[i].2 < 18446744073709551616
  sb : ∀ i, (h : i < s.ss.length) → 0 ≤ s.ss[i].2 ∧ s.ss[i].2 < 18446744073709551616
  eb : ∀ i, (h : i < s.es.length) → (0 ≤ s.es[i].1 ∧ s.es[i].1 < 65536) ∧ (0 ≤ s.es[i].2.1 ∧ s.es[i].2.1 < 65536) ∧ 0 ≤ s.es[i].2.2 ∧ s.es[i].2.2 < 256
end Sn

/- A state's bytes say the state. -/
set_option linter.unusedVariables false
namespace Sn
theorem num_at {b pre m suf : By} (h : b = pre ++ (m ++ suf)) {at_ off k : Nat} (ha : at_ = pre.length + off) (hk : off + k ≤ m.length) : num b at_ k = dec (part m off k) := by
  unfold num
  rw [h, ha, part_mid _ _ _ _ _ hk]
theorem get_at {b pre m suf : By} (h : b = pre ++ (m ++ suf)) {at_ off : Nat} (ha : at_ = pre.length + off) (hk : off < m.length) : b.getD at_ 0 = m.getD off 0 := by
  rw [h, ha]
  simp only [List.getD]
  rw [List.getElem?_append_right (by omega), show pre.length + off - pre.length = off by omega, List.getElem?_append_left hk]
theorem num_all {b pre m suf : By} (h : b = pre ++ (m ++ suf)) {at_ k : Nat} (ha : at_ = pre.length) (hk : m.length = k) : num b at_ k = dec m := by
  rw [num_at h (off := 0) (by omega) (by omega), part_all m hk]
section
variable (s : St)
def tl8 : By := enc (sum (body s)) 8
theorem cutN : save s = mark ++ (encI s.N 2 ++ (encI s.L 2 ++ (encI s.R 2 ++ (s.hs.flatMap hB ++ (s.ss.flatMap sB ++ (enc s.es.length 4 ++ (s.es.flatMap eB ++ tl8 s))))))) := by
  simp only [save, body, head, tl8, List.append_assoc]
theorem cutL : save s = (mark ++ encI s.N 2) ++ (encI s.L 2 ++ (encI s.R 2 ++ (s.hs.flatMap hB ++ (s.ss.flatMap sB ++ (enc s.es.length 4 ++ (s.es.flatMap eB ++ tl8 s)))))) := by
  rw [cutN]; simp only [List.append_assoc]
theorem cutR : save s = (mark ++ (encI s.N 2 ++ encI s.L 2)) ++ (encI s.R 2 ++ (s.hs.flatMap hB ++ (s.ss.flatMap sB ++ (enc s.es.length 4 ++ (s.es.flatMap eB ++ tl8 s))))) := by
  rw [cutN]; simp only [List.append_assoc]
theorem cutH : save s = head s ++ (s.hs.flatMap hB ++ (s.ss.flatMap sB ++ (enc s.es.length 4 ++ (s.es.flatMap eB ++ tl8 s)))) := by
  rw [cutN]; simp only [head, List.append_assoc]
theorem cutS : save s = (head s ++ s.hs.flatMap hB) ++ (s.ss.flatMap sB ++ (enc s.es.length 4 ++ (s.es.flatMap eB ++ tl8 s))) := by
  rw [cutH]; simp only [List.append_assoc]
theorem cutC : save s = (head s ++ (s.hs.flatMap hB ++ s.ss.flatMap sB)) ++ (enc s.es.length 4 ++ (s.es.flatMap eB ++ tl8 s)) := by
  rw [cutH]; simp only [List.append_assoc]
theorem cutE : save s = (head s ++ (s.hs.flatMap hB ++ (s.ss.flatMap sB ++ enc s.es.length 4))) ++ (s.es.flatMap eB ++ tl8 s) := by
  rw [cutH]; simp only [List.append_assoc]
end
theorem dec_toNat {n : Int} {k : Nat} (h0 : 0 ≤ n) (h : n < (256 ^ k : Nat)) : dec (encI n k) = n.toNat := by
  unfold encI; exact dec_enc _ _ (by omega)
variable {s : St}
theorem numN (h : Ok s) : num (save s) 4 2 = s.N.toNat := by
  rw [num_all (cutN s) (at_ := 4) rfl (encI_len _ _), dec_toNat h.n0 (by have := h.n1; omega)]
theorem numL (h : Ok s) : num (save s) 6 2 = s.L.toNat := by
  rw [num_all (cutL s) (by simp [mark, encI_len]) (encI_len _ _), dec_toNat h.l0 (by have := h.l1; omega)]
theorem numR (h : Ok s) : num (save s) 8 2 = s.R.toNat := by
  rw [num_all (cutR s) (by simp [mark, encI_len]) (encI_len _ _), dec_toNat h.r0 (by have := h.r1; omega)]
theorem lr_nat (h : Ok s) : s.L.toNat * s.R.toNat = s.hs.length := by
  have h1 := h.hl
  have e1 : s.L = (s.L.toNat : Int) := (Int.toNat_of_nonneg h.l0).symm
  have e2 : s.R = (s.R.toNat : Int) := (Int.toNat_of_nonneg h.r0).symm
  rw [e1, e2] at h1
  have h2 : ((s.L.toNat * s.R.toNat : Nat) : Int) = (s.hs.length : Int) := by rw [Int.natCast_mul]; exact h1.symm
  exact Int.ofNat.inj h2
theorem n_nat (h : Ok s) : s.N.toNat = s.ss.length := by have := h.sl; omega
theorem fixed_nat (h : Ok s) : fixedOf s.N.toNat s.L.toNat s.R.toNat = 14 + s.hs.length * 16 + s.ss.length * 9 := by
  unfold fixedOf; rw [lr_nat h, n_nat h]
theorem rest_nat (h : Ok s) : (save s).length - fixedOf s.N.toNat s.L.toNat s.R.toNat - 8 = 5 * s.es.length := by
  rw [fixed_nat h, save_len]; omega
theorem fits_save (h : Ok s) : Fits (save s) := by
  unfold Fits
  rw [numN h, numL h, numR h, rest_nat h]
  have h1 := h.n1
  have h2 := h.l1
  have h3 := h.r1
  have hl := save_len s
  have hf := fixed_nat h
  refine ⟨by omega, by omega, by omega, by omega, by omega, by omega, ?_⟩
  rw [num_all (cutC s) (by
    simp only [List.length_append, head_len, flat_len hB 16 hB_len, flat_len sB 9 sB_len]; omega) (enc_len _ _), dec_enc _ _ (by have := h.el; omega)]
  omega
theorem told_save (h : Ok s) : told (save s) = s := by
  have hN := numN h
  have hL := numL h
  have hR := numR h
  have hlr := lr_nat h
  have hn := n_nat h
  unfold told
  rw [hN, hL, hR, rest_nat h, hlr, fixed_nat h]
  cases s with
  | mk N L R hs es ss =>
  simp only [St.mk.injEq]
  simp only at hN hL hR hlr hn
  refine ⟨Int.toNat_of_nonneg h.n0, Int.toNat_of_nonneg h.l0, Int.toNat_of_nonneg h.r0, ?_, ?_, ?_⟩
  · refine List.ext_getElem (by simp) fun i h1 h2 => ?_
    rw [List.getElem_map, List.getElem_range]
    have hb := h.hb i h2
    simp only at hb
    unfold hOf
    rw [num_at (cutH _) (off := 16 * i + 0) (by simp [head_len]) (by simp only [flat_len hB 16 hB_len]; omega), num_at (cutH _) (off := 16 * i + 8) (by simp [head_len]; omega) (by simp only [flat_len hB 16 hB_len]; omega)]
    rw [flat_part hB 16 hB_len hs i h2 0 8 (by omega), flat_part hB 16 hB_len hs i h2 8 8 (by omega)]
    have e1 : part (hB hs[i]) 0 8 = encI hs[i].1 8 := by
      unfold hB; rw [part_app_l _ _ _ _ (by simp [encI_len]), part_all _ (encI_len _ _)]
    have e2 : part (hB hs[i]) 8 8 = encI hs[i].2 8 := by
      have := part_app_r (encI hs[i].1 8) (encI hs[i].2 8) 0 8
      rw [encI_len] at this
      unfold hB; rw [this, part_all _ (encI_len _ _)]
    rw [e1, e2, dec_encI hb.1.1 (by have := hb.1.2; omega), dec_encI hb.2.1 (by have := hb.2.2; omega)]
  · refine List.ext_getElem (by simp) fun i h1 h2 => ?_
    rw [List.getElem_map, List.getElem_range]
    have hb := h.eb i h2
    simp only at hb
    have hpre : 14 + hs.length * 16 + ss.length * 9 = (head { N := N, L := L, R := R, hs := hs, es := es, ss := ss } ++ (hs.flatMap hB ++ (ss.flatMap sB ++ enc es.length 4))).length := by
      simp only [List.length_append, head_len, flat_len hB 16 hB_len, flat_len sB 9 sB_len, enc_len]; omega
    have hle : (es.flatMap eB).length = 5 * es.length := flat_len eB 5 eB_len es
    unfold eOf
    rw [num_at (cutE _) (off := 5 * i + 0) (by rw [← hpre]; omega) (by simp only [hle]; omega), num_at (cutE _) (off := 5 * i + 2) (by rw [← hpre]; omega) (by simp only [hle]; omega), get_at (cutE _) (off := 5 * i + 4) (by rw [← hpre]; omega) (by simp only [hle]; omega)]
    rw [flat_part eB 5 eB_len es i h2 0 2 (by omega), flat_part eB 5 eB_len es i h2 2 2 (by omega)]
    have e1 : part (eB es[i]) 0 2 = encI es[i].1 2 := by
      unfold eB; rw [part_app_l _ _ _ _ (by simp [encI_len]), part_all _ (encI_len _ _)]
    have e2 : part (eB es[i]) 2 2 = encI es[i].2.1 2 := by
      have := part_app_r (encI es[i].1 2) (encI es[i].2.1 2 ++ encI es[i].2.2 1) 0 2
      rw [encI_len] at this
      unfold eB; rw [this, part_app_l _ _ _ _ (by simp [encI_len]), part_all _ (encI_len _ _)]
    have e3 : (es.flatMap eB).getD (5 * i + 4) 0 = UInt8.ofNat (es[i].2.2.toNat % 256) := by
      have h5 := flat_part eB 5 eB_len es i h2 4 1 (by omega)
      have h6 : part (eB es[i]) 4 1 = encI es[i].2.2 1 := by
        have := part_app_r (encI es[i].1 2 ++ encI es[i].2.1 2) (encI es[i].2.2 1) 0 1
        simp only [List.length_append, encI_len] at this
        unfold eB; rw [← List.append_assoc, this, part_all _ (encI_len _ _)]
      rw [h6] at h5
      have h7 : (part (es.flatMap eB) (5 * i + 4) 1)[0]? = (es.flatMap eB)[5 * i + 4]? := by simp [part]
      rw [h5] at h7
      simp only [List.getD, ← h7]
      simp [encI, enc]
    rw [e1, e2, e3, dec_encI hb.1.1 (by have := hb.1.2; omega), dec_encI hb.2.1.1 (by have := hb.2.1.2; omega)]
    have e4 : (((UInt8.ofNat (es[i].2.2.toNat % 256)).toNat : Nat) : Int) = es[i].2.2 := by
      rw [UInt8.toNat_ofNat']; omega
    rw [e4]
  · refine List.ext_getElem (by simp [hn]) fun i h1 h2 => ?_
    rw [List.getElem_map, List.getElem_range]
    have hb := h.sb i h2
    simp only at hb
    have hpre : 10 + hs.length * 16 = (head { N := N, L := L, R := R, hs := hs, es := es, ss := ss } ++ hs.flatMap hB).length := by
      simp only [List.length_append, head_len, flat_len hB 16 hB_len]; omega
    have hle : (ss.flatMap sB).length = 9 * ss.length := flat_len sB 9 sB_len ss
    unfold sOf
    rw [get_at (cutS _) (off := 9 * i) (by rw [← hpre]) (by simp only [hle]; omega), num_at (cutS _) (off := 9 * i + 1) (by rw [← hpre]; omega) (by simp only [hle]; omega)]
    rw [flat_part sB 9 sB_len ss i h2 1 8 (by omega)]
    have e2 : part (sB ss[i]) 1 8 = encI ss[i].2 8 := by
      have := part_app_r (enc (if ss[i].1 then 1 else 0) 1) (encI ss[i].2 8) 0 8
      rw [enc_len] at this
      unfold sB; rw [this, part_all _ (encI_len _ _)]
    have e3 : (ss.flatMap sB).getD (9 * i) 0 = if ss[i].1 then 1 else 0 := by
      have h5 := flat_part sB 9 sB_len ss i h2 0 1 (by omega)
      have h6 : part (sB ss[i]) 0 1 = enc (if ss[i].1 then 1 else 0) 1 := by
        unfold sB; rw [part_app_l _ _ _ _ (by simp [enc_len]), part_all _ (enc_len _ _)]
      rw [h6] at h5
      have h7 : (part (ss.flatMap sB) (9 * i + 0) 1)[0]? = (ss.flatMap sB)[9 * i]? := by simp [part]
      rw [h5] at h7
      simp only [List.getD, ← h7]
      cases ss[i].1 <;> rfl
    rw [e2, e3, dec_encI hb.1 (by have := hb.2; omega)]
    generalize ss[i] = x
    obtain ⟨u, k⟩ := x
    cases u <;> rfl
end Sn

/- Bytes that are cut off, or turned, are no state's. -/
set_option linter.unusedVariables false
namespace Sn
theorem num_app {a m : By} {at_ k : Nat} (h : at_ + k ≤ a.length) : num (a ++ m) at_ k = num a at_ k := by
  unfold num; rw [part_app_l _ _ _ _ h]
theorem fits_len {b : By} (h : Fits b) : b.length = fixedOf (num b 4 2) (num b 6 2) (num b 8 2) + 8 + 5 * num b (fixedOf (num b 4 2) (num b 6 2) (num b 8 2) - 4) 4 := by
  obtain ⟨h1, -, -, -, h5, h6, h7⟩ := h
  omega
/-- No state's bytes go on as another one's. -/
theorem fits_app {a m : By} (ha : Fits a) (hb : Fits (a ++ m)) : m = [] := by
  have h1 := fits_len ha
  have h2 := fits_len hb
  have h0 := ha.1
  have h5 := ha.2.2.2.2.1
  rw [num_app (at_ := 4) (by omega), num_app (at_ := 6) (by omega), num_app (at_ := 8) (by omega)] at h2
  have h14 : 14 ≤ fixedOf (num a 4 2) (num a 6 2) (num a 8 2) := by unfold fixedOf; omega
  rw [num_app (a := a) (m := m) (at_ := fixedOf (num a 4 2) (num a 6 2) (num a 8 2) - 4) (by omega)] at h2
  rw [List.length_append] at h2
  exact List.eq_nil_of_length_eq_zero (by omega)
theorem sum_256 (l : By) : sum l < 256 ^ 8 := Nat.lt_of_lt_of_le (sum_lt l) (by decide)
theorem set_split {b : By} {p : Nat} (hp : p < b.length) (x : UInt8) : b.set p x = b.take p ++ x :: b.drop (p + 1) := by
  rw [List.set_eq_take_append_cons_drop, if_pos hp]
theorem self_split {b : By} {p : Nat} (hp : p < b.length) : b = b.take p ++ b[p] :: b.drop (p + 1) := by
  rw [← List.drop_eq_getElem_cons hp, List.take_append_drop]
/-- Texts that end in their own sum, and differ in one byte, are the same. -/
theorem turned {a c : By} {p : Nat} {x : UInt8} (hp : p < (a ++ enc (sum a) 8).length) (h : (a ++ enc (sum a) 8).set p x = c ++ enc (sum c) 8) : x = (a ++ enc (sum a) 8)[p] := by
  have hl : a.length = c.length := by
    have := congrArg List.length h
    simp only [List.length_set, List.length_append, enc_len] at this
    omega
  by_cases hpa : p < a.length
  · rw [List.set_append_left _ _ hpa] at h
    obtain ⟨h1, h2⟩ := List.append_inj h (by simpa using hl)
    have h3 := enc_inj (sum_256 a) (sum_256 c) h2
    rw [List.getElem_append_left hpa]
    by_cases hx : x = a[p]
    · exact hx
    · exfalso
      have h4 := sum_changed (a.take p) (a.drop (p + 1)) hx
      rw [← set_split hpa, ← self_split hpa, h1] at h4
      exact h4 h3.symm
  · rw [List.set_append_right _ _ (by omega)] at h
    obtain ⟨h1, h2⟩ := List.append_inj h hl
    subst h1
    have hq : p - a.length < (enc (sum a) 8).length := by simp only [List.length_append] at hp; omega
    rw [List.getElem_append_right (by omega)]
    have := congrArg (fun l => l[p - a.length]?) h2
    simp only [List.getElem?_set_self hq, List.getElem?_eq_getElem hq] at this
    exact Option.some.inj this
end Sn

