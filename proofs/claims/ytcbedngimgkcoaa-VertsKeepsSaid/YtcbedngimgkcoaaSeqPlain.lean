set_option linter.unusedVariables false
namespace Sq

/-- A sequence: a thing with what stands ahead and behind. -/
inductive Tr (α : Type) where
  | nil : Tr α
  | node : Tr α → α → Tr α → Tr α

variable {α : Type}
def ht : Tr α → Nat
  | .nil => 0
  | .node a _ b => max (ht a) (ht b) + 1
def sz : Tr α → Nat
  | .nil => 0
  | .node a _ b => sz a + 1 + sz b
def ls : Tr α → List α
  | .nil => []
  | .node a x b => ls a ++ x :: ls b
theorem len_ls (t : Tr α) : (ls t).length = sz t := by
  induction t with
  | nil => rfl
  | node a x b iha ihb => simp [ls, sz, iha, ihb]; omega
theorem ht_le_sz (t : Tr α) : ht t ≤ sz t := by
  induction t with
  | nil => exact Nat.le_refl _
  | node a x b iha ihb => simp [ht, sz]; omega
theorem ht_zero {t : Tr α} (h : ht t = 0) : t = .nil := by
  cases t with
  | nil => rfl
  | node a x b => simp [ht] at h
theorem sz_zero {t : Tr α} (h : sz t = 0) : t = .nil := by
  cases t with
  | nil => rfl
  | node a x b => simp [sz] at h
theorem ht_pos {t : Tr α} (h : 0 < sz t) : 0 < ht t := by
  cases t with
  | nil => simp [sz] at h
  | node a x b => simp [ht]

/-- What turns a sequence whose sides differ by two. -/
def turned (a : Tr α) (x : α) (b : Tr α) : Tr α :=
  if ht b + 1 < ht a then
    match a with
    | .nil => .node a x b
    | .node aa ax ab =>
      if ht ab ≤ ht aa then .node aa ax (.node ab x b)
      else match ab with
        | .nil => .node a x b
        | .node ta tx tb => .node (.node aa ax ta) tx (.node tb x b)
  else if ht a + 1 < ht b then
    match b with
    | .nil => .node a x b
    | .node ba bx bb =>
      if ht ba ≤ ht bb then .node (.node a x ba) bx bb
      else match ba with
        | .nil => .node a x b
        | .node ta tx tb => .node (.node a x ta) tx (.node tb bx bb)
  else .node a x b

theorem turned_l1 {aa : Tr α} {ax : α} {ab : Tr α} {x : α} {b : Tr α} (h : ht b + 1 < ht (.node aa ax ab)) (h1 : ht ab ≤ ht aa) : turned (.node aa ax ab) x b = .node aa ax (.node ab x b) := by
  unfold turned; rw [if_pos h]; simp only []; rw [if_pos h1]
theorem turned_l2 {aa : Tr α} {ax : α} {ta : Tr α} {tx : α} {tb : Tr α} {x : α} {b : Tr α} (h : ht b + 1 < ht (.node aa ax (.node ta tx tb))) (h1 : ¬ ht (.node ta tx tb) ≤ ht aa) :
    turned (.node aa ax (.node ta tx tb)) x b = .node (.node aa ax ta) tx (.node tb x b) := by
  unfold turned; rw [if_pos h]; simp only []; rw [if_neg h1]
theorem turned_r1 {a : Tr α} {x : α} {ba : Tr α} {bx : α} {bb : Tr α} (h0 : ¬ ht (.node ba bx bb) + 1 < ht a) (h : ht a + 1 < ht (.node ba bx bb)) (h1 : ht ba ≤ ht bb) : turned a x (.node ba bx bb) = .node (.node a x ba) bx bb := by
  unfold turned; rw [if_neg h0, if_pos h]; simp only []; rw [if_pos h1]
theorem turned_r2 {a : Tr α} {x : α} {ta : Tr α} {tx : α} {tb : Tr α} {bx : α} {bb : Tr α} (h0 : ¬ ht (.node (.node ta tx tb) bx bb) + 1 < ht a) (h : ht a + 1 < ht (.node (.node ta tx tb) bx bb)) (h1 : ¬ ht (.node ta tx tb) ≤ ht bb) :
    turned a x (.node (.node ta tx tb) bx bb) = .node (.node a x ta) tx (.node tb bx bb) := by
  unfold turned; rw [if_neg h0, if_pos h]; simp only []; rw [if_neg h1]
theorem turned_c {a : Tr α} {x : α} {b : Tr α} (h0 : ¬ ht b + 1 < ht a) (h1 : ¬ ht a + 1 < ht b) : turned a x b = .node a x b := by
  unfold turned; rw [if_neg h0, if_neg h1]
theorem ls_turned (a : Tr α) (x : α) (b : Tr α) : ls (turned a x b) = ls a ++ x :: ls b := by
  unfold turned
  split
  · split
    · rfl
    · split
      · simp [ls]
      · split
        · simp [ls]
        · simp [ls]
  · split
    · split
      · rfl
      · split
        · simp [ls]
        · split
          · simp [ls]
          · simp [ls]
    · rfl

/-- What stands ahead, a thing, and what stands behind, of any heights (by so many steps at most). -/
def aroundF : Nat → Tr α → α → Tr α → Tr α
  | 0, a, x, b => .node a x b
  | n + 1, a, x, b =>
    if ht b + 1 < ht a then
      match a with
      | .nil => .node a x b
      | .node aa ax ab => turned aa ax (aroundF n ab x b)
    else if ht a + 1 < ht b then
      match b with
      | .nil => .node a x b
      | .node ba bx bb => turned (aroundF n a x ba) bx bb
    else .node a x b
theorem aroundF_eq (n m : Nat) (a : Tr α) (x : α) (b : Tr α) (hn : sz a + sz b ≤ n) (hm : sz a + sz b ≤ m) : aroundF n a x b = aroundF m a x b := by
  induction n generalizing m a b with
  | zero =>
    have ha : a = .nil := sz_zero (by omega)
    have hb : b = .nil := sz_zero (by omega)
    subst ha hb
    cases m <;> simp [aroundF, ht]
  | succ n ih =>
    cases m with
    | zero =>
      have ha : a = .nil := sz_zero (by omega)
      have hb : b = .nil := sz_zero (by omega)
      subst ha hb
      simp [aroundF, ht]
    | succ m =>
      simp only [aroundF]
      split
      · cases a with
        | nil => rfl
        | node aa ax ab =>
          simp only [sz] at hn hm
          show turned aa ax (aroundF n ab x b) = turned aa ax (aroundF m ab x b)
          rw [ih m ab b (by omega) (by omega)]
      · split
        · cases b with
          | nil => rfl
          | node ba bx bb =>
            simp only [sz] at hn hm
            show turned (aroundF n a x ba) bx bb = turned (aroundF m a x ba) bx bb
            rw [ih m a ba (by omega) (by omega)]
        · rfl
def around (a : Tr α) (x : α) (b : Tr α) : Tr α := aroundF (sz a + sz b) a x b
theorem around_left {aa : Tr α} {ax : α} {ab : Tr α} {x : α} {b : Tr α} (h : ht b + 1 < ht (.node aa ax ab)) : around (.node aa ax ab) x b = turned aa ax (around ab x b) := by
  unfold around
  rw [aroundF_eq _ (sz ab + sz b + (sz aa + 1)) _ _ _ (Nat.le_refl _) (by simp [sz]; omega), show sz ab + sz b + (sz aa + 1) = (sz ab + sz b + sz aa) + 1 by omega]
  simp only [aroundF]
  rw [if_pos h]
  show turned aa ax (aroundF _ ab x b) = _
  rw [aroundF_eq _ (sz ab + sz b) _ _ _ (by omega) (Nat.le_refl _)]
theorem around_right {a : Tr α} {x : α} {ba : Tr α} {bx : α} {bb : Tr α} (h0 : ¬ ht (.node ba bx bb) + 1 < ht a) (h : ht a + 1 < ht (.node ba bx bb)) : around a x (.node ba bx bb) = turned (around a x ba) bx bb := by
  unfold around
  rw [aroundF_eq _ (sz a + sz ba + (sz bb + 1)) _ _ _ (Nat.le_refl _) (by simp [sz]; omega), show sz a + sz ba + (sz bb + 1) = (sz a + sz ba + sz bb) + 1 by omega]
  simp only [aroundF]
  rw [if_neg h0, if_pos h]
  show turned (aroundF _ a x ba) bx bb = _
  rw [aroundF_eq _ (sz a + sz ba) _ _ _ (by omega) (Nat.le_refl _)]
theorem around_mid {a : Tr α} {x : α} {b : Tr α} (h0 : ¬ ht b + 1 < ht a) (h1 : ¬ ht a + 1 < ht b) : around a x b = .node a x b := by
  unfold around
  rw [aroundF_eq _ (sz a + sz b + 1) _ _ _ (Nat.le_refl _) (by omega)]
  simp only [aroundF]
  rw [if_neg h0, if_neg h1]
theorem ls_around (a : Tr α) (x : α) (b : Tr α) : ls (around a x b) = ls a ++ x :: ls b := by
  generalize hn : sz a + sz b = n
  induction n using Nat.strongRecOn generalizing a b with
  | _ n ih =>
    by_cases h0 : ht b + 1 < ht a
    · cases a with
      | nil => simp [ht] at h0
      | node aa ax ab =>
        rw [around_left h0, ls_turned, ih (sz ab + sz b) (by simp [sz] at hn; omega) _ _ rfl]
        simp [ls]
    · by_cases h1 : ht a + 1 < ht b
      · cases b with
        | nil => simp [ht] at h1
        | node ba bx bb =>
          rw [around_right h0 h1, ls_turned, ih (sz a + sz ba) (by simp [sz] at hn; omega) _ _ rfl]
          simp [ls]
      · rw [around_mid h0 h1]; rfl
theorem sz_around (a : Tr α) (x : α) (b : Tr α) : sz (around a x b) = sz a + 1 + sz b := by
  rw [← len_ls, ls_around]; simp [len_ls]; try omega

def split : Tr α → Int → Tr α × Tr α
  | .nil, _ => (.nil, .nil)
  | .node a x b, at_ =>
    if at_ ≤ 0 then (.nil, .node a x b)
    else if (sz (.node a x b) : Int) ≤ at_ then (.node a x b, .nil)
    else if at_ ≤ (sz a : Int) then ((split a at_).1, around (split a at_).2 x b)
    else (around a x (split b (at_ - sz a - 1)).1, (split b (at_ - sz a - 1)).2)
theorem ls_split (t : Tr α) (i : Int) : ls (split t i).1 = (ls t).take i.toNat ∧ ls (split t i).2 = (ls t).drop i.toNat := by
  induction t generalizing i with
  | nil => simp [split, ls]
  | node a x b iha ihb =>
    rw [split]
    split
    · rename_i h
      have : i.toNat = 0 := by omega
      simp [this, ls]
    · split
      · rename_i h h2
        have : (ls (.node a x b)).length ≤ i.toNat := by rw [len_ls]; omega
        rw [List.take_of_length_le this, List.drop_of_length_le this]
        exact ⟨rfl, rfl⟩
      · split
        · rename_i h h2 h3
          obtain ⟨e1, e2⟩ := iha i
          have hl : i.toNat ≤ (ls a).length := by rw [len_ls]; omega
          refine ⟨?_, ?_⟩
          · simp only [e1, ls]
            rw [List.take_append_of_le_length hl]
          · simp only [ls_around, e2, ls]
            rw [List.drop_append_of_le_length hl]
        · rename_i h h2 h3
          obtain ⟨e1, e2⟩ := ihb (i - sz a - 1)
          have hl := len_ls a
          have e3 : i.toNat = (ls a).length + ((i - sz a - 1).toNat + 1) := by omega
          refine ⟨?_, ?_⟩
          · simp only [ls_around, e1, ls, e3, List.take_length_add_append, List.take_succ_cons]
          · simp only [e2, ls, e3, List.drop_length_add_append, List.drop_succ_cons]

def atT : Tr α → Nat → Option α
  | .nil, _ => none
  | .node a x b, i => if i < sz a then atT a i else if i = sz a then some x else atT b (i - sz a - 1)
theorem atT_ls (t : Tr α) (i : Nat) : atT t i = (ls t)[i]? := by
  induction t generalizing i with
  | nil => simp [atT, ls]
  | node a x b iha ihb =>
    simp only [atT, ls]
    have hl := len_ls a
    split
    · rw [List.getElem?_append_left (by omega)]; exact iha i
    · split
      · rename_i h1 h2
        rw [List.getElem?_append_right (by omega), h2, hl]; simp
      · rw [List.getElem?_append_right (by omega), hl, show i - sz a = (i - sz a - 1) + 1 by omega, List.getElem?_cons_succ]
        exact ihb _
/-- The things of a, and then those of b. -/
def join (a b : Tr α) : Tr α :=
  match atT b 0 with
  | none => a
  | some x => around a x (split b 1).2
theorem ls_join (a b : Tr α) : ls (join a b) = ls a ++ ls b := by
  unfold join
  rw [atT_ls]
  cases h : (ls b)[0]? with
  | none => 
    have : ls b = [] := by cases hb : ls b with
      | nil => rfl
      | cons x l => rw [hb] at h; simp at h
    simp [this]
  | some x =>
    simp only [ls_around, (ls_split b 1).2]
    cases hb : ls b with
    | nil => rw [hb] at h; simp at h
    | cons y l => rw [hb] at h; simp at h; simp [h]

def ofF : Nat → List α → Tr α
  | 0, _ => .nil
  | n + 1, l =>
    match l[l.length / 2]? with
    | none => .nil
    | some x => .node (ofF n (l.take (l.length / 2))) x (ofF n (l.drop (l.length / 2 + 1)))
theorem ofF_eq (n m : Nat) (l : List α) (hn : l.length ≤ n) (hm : l.length ≤ m) : ofF n l = ofF m l := by
  induction n generalizing m l with
  | zero =>
    have : l = [] := List.eq_nil_of_length_eq_zero (by omega)
    subst this
    cases m <;> simp [ofF]
  | succ n ih =>
    cases m with
    | zero =>
      have : l = [] := List.eq_nil_of_length_eq_zero (by omega)
      subst this
      simp [ofF]
    | succ m =>
      simp only [ofF]
      split
      · rfl
      · rename_i x hx
        have hl : l.length / 2 < l.length := (List.getElem?_eq_some_iff.1 hx).1
        rw [ih m _ (by simp; omega) (by simp; omega), ih m (l.drop _) (by simp; omega) (by simp; omega)]
def ofL (l : List α) : Tr α := ofF l.length l
theorem ofL_node {l : List α} (h : 0 < l.length) : ofL l = .node (ofL (l.take (l.length / 2))) (l[l.length / 2]'(by omega)) (ofL (l.drop (l.length / 2 + 1))) := by
  unfold ofL
  rw [ofF_eq l.length (l.length + 1) l (Nat.le_refl _) (by omega), ofF, List.getElem?_eq_getElem (by omega)]
  simp only []
  rw [ofF_eq l.length _ _ (by simp; omega) (Nat.le_refl _), ofF_eq l.length _ (l.drop _) (by simp) (Nat.le_refl _)]
theorem ls_ofL (l : List α) : ls (ofL l) = l := by
  generalize hn : l.length = n
  induction n using Nat.strongRecOn generalizing l with
  | _ n ih =>
    by_cases h : 0 < l.length
    · rw [ofL_node h]
      simp only [ls]
      rw [ih (l.length / 2) (by omega) _ (by simp; try omega), ih (l.length - (l.length / 2 + 1)) (by omega) _ (by simp)]
      rw [← List.drop_eq_getElem_cons (by omega), List.take_append_drop]
    · have : l = [] := List.eq_nil_of_length_eq_zero (by omega)
      subst this
      rfl
end Sq
