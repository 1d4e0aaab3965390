import Derived.Test.YtomgbhnalhddiaaModPlain
set_option linter.unusedVariables false
namespace Sk
open Md

/-- The value of a name by a hash, and a level's bound. -/
def val (h : Nat × Nat) (n : Nat) : Nat := add (mul h.1 n) h.2
def bnd (j : Nat) : Nat := P / 2 ^ j
theorem val_lt (h : Nat × Nat) (n : Nat) : val h n < P := add_lt _ _
theorem bnd_zero : bnd 0 = P := by unfold bnd; rw [Nat.pow_zero, Nat.div_one]
theorem bnd_succ (j : Nat) : bnd (j + 1) = bnd j / 2 := by unfold bnd; rw [Nat.pow_succ, Nat.div_div_eq_div_mul]
theorem bnd_le (i j : Nat) (h : i ≤ j) : bnd j ≤ bnd i := by
  induction j with
  | zero => have : i = 0 := by omega
            subst this; exact Nat.le_refl _
  | succ j ih =>
    rcases Nat.lt_or_ge j i with h1 | h1
    · have : i = j + 1 := by omega
      subst this; exact Nat.le_refl _
    · rw [bnd_succ]; have := ih h1; omega
/-- d is how deep a value goes, of so many levels. -/
def IsDeep (x lim d : Nat) : Prop := d ≤ lim ∧ ∀ j, j < lim → (j < d ↔ x < bnd j)
theorem deep_of {x lim d : Nat} (h1 : d ≤ lim) (h2 : ∀ j, j < d → x < bnd j) (h3 : d < lim → bnd d ≤ x) : IsDeep x lim d :=
  ⟨h1, fun j hj => ⟨h2 j, fun hx => by
    rcases Nat.lt_or_ge j d with h | h
    · exact h
    · have := bnd_le d j h
      have := h3 (by omega)
      omega⟩⟩
theorem deep_eq {x lim d e : Nat} (h : IsDeep x lim d) (h' : IsDeep x lim e) : d = e := by
  rcases Nat.lt_trichotomy d e with h1 | h1 | h1
  · have := (h'.2 d (by have := h'.1; omega)).1 h1
    have := (h.2 d (by have := h'.1; omega)).2 this
    omega
  · exact h1
  · have := (h.2 e (by have := h.1; omega)).1 h1
    have := (h'.2 e (by have := h.1; omega)).2 this
    omega

/-- What stands at level j of a row, of a word w, if a name is toggled. -/
def tog1 (h : Nat × Nat) (n j w : Nat) : Nat := if val h n < bnd j then w ^^^ n else w
theorem tog1_first (h : Nat × Nat) (n w : Nat) : tog1 h n 0 w = w ^^^ n := by
  unfold tog1; rw [bnd_zero, if_pos (val_lt h n)]
theorem tog1_xor (h : Nat × Nat) (n j w x : Nat) : tog1 h n j (w ^^^ x) = tog1 h n j w ^^^ x := by
  unfold tog1
  split
  · rw [Nat.xor_assoc, Nat.xor_comm x n, ← Nat.xor_assoc]
  · rfl
/-- Words with a name toggled: row by row, v levels a row. -/
def tog (l : List (Nat × Nat)) (v n : Nat) (ws : List Nat) : List Nat := ws.mapIdx fun t w => tog1 (l.getD (t / v) (0, 0)) n (t % v) w
theorem len_tog (l : List (Nat × Nat)) (v n : Nat) (ws : List Nat) : (tog l v n ws).length = ws.length := by simp [tog]
theorem tog_at (l : List (Nat × Nat)) (v n : Nat) (ws : List Nat) (t : Nat) : (tog l v n ws)[t]? = ws[t]?.map fun w => tog1 (l.getD (t / v) (0, 0)) n (t % v) w := by simp [tog]
def togs (l : List (Nat × Nat)) (v : Nat) (ns : List Nat) (ws : List Nat) : List Nat := ns.foldl (fun ws n => tog l v n ws) ws
theorem togs_snoc (l : List (Nat × Nat)) (v : Nat) (ns : List Nat) (n : Nat) (ws : List Nat) : togs l v (ns ++ [n]) ws = tog l v n (togs l v ns ws) := by
  unfold togs; rw [List.foldl_append]; rfl
theorem len_togs (l : List (Nat × Nat)) (v : Nat) (ns : List Nat) (ws : List Nat) : (togs l v ns ws).length = ws.length := by
  unfold togs
  induction ns generalizing ws with
  | nil => rfl
  | cons n ns ih => rw [List.foldl_cons, ih, len_tog]
/-- The word of names at level j of a row. -/
def word (h : Nat × Nat) (j : Nat) (ns : List Nat) (w : Nat) : Nat := ns.foldl (fun w n => tog1 h n j w) w
theorem word_snoc (h : Nat × Nat) (j : Nat) (ns : List Nat) (n w : Nat) : word h j (ns ++ [n]) w = tog1 h n j (word h j ns w) := by
  unfold word; rw [List.foldl_append]; rfl
theorem togs_at (l : List (Nat × Nat)) (v : Nat) (ns : List Nat) (ws : List Nat) (t : Nat) : (togs l v ns ws)[t]? = ws[t]?.map fun w => word (l.getD (t / v) (0, 0)) (t % v) ns w := by
  unfold togs word
  induction ns generalizing ws with
  | nil => simp
  | cons n ns ih => rw [List.foldl_cons, ih, tog_at]; simp [Function.comp_def]
/-- The document's words. -/
def refWords (l : List (Nat × Nat)) (v : Nat) (ns : List Nat) : List Nat := (List.range (l.length * v)).map fun t => word (l.getD (t / v) (0, 0)) (t % v) ns 0
theorem togs_ref (l : List (Nat × Nat)) (v : Nat) (ns : List Nat) : togs l v ns (List.replicate (l.length * v) 0) = refWords l v ns := by
  refine List.ext_getElem? fun t => ?_
  rw [togs_at]
  unfold refWords
  rw [List.getElem?_map]
  by_cases h : t < l.length * v
  · rw [List.getElem?_replicate, if_pos h, List.getElem?_range h]; rfl
  · rw [List.getElem?_replicate, if_neg h, List.getElem?_eq_none (by simp; omega)]; rfl
theorem word_first (h : Nat × Nat) (ns : List Nat) (w : Nat) : word h 0 ns w = ns.foldl (· ^^^ ·) w := by
  unfold word
  induction ns generalizing w with
  | nil => rfl
  | cons n ns ih => rw [List.foldl_cons, List.foldl_cons, tog1_first, ih]
/-- Two lists, word by word. -/
def xors (a b : List Nat) : List Nat := List.zipWith (· ^^^ ·) a b
theorem len_xors (a b : List Nat) (h : a.length = b.length) : (xors a b).length = a.length := by simp [xors]; omega
theorem xors_comm (a b : List Nat) : xors a b = xors b a := by
  unfold xors; rw [List.zipWith_comm]; congr 1; funext x y; rw [Nat.xor_comm]
theorem xors_assoc (a b c : List Nat) : xors (xors a b) c = xors a (xors b c) := by
  unfold xors
  induction a generalizing b c with
  | nil => simp
  | cons x a ih => cases b with
    | nil => simp
    | cons y b => cases c with
      | nil => simp
      | cons z c => simp [ih, Nat.xor_assoc]
theorem xors_self (a : List Nat) : xors a a = List.replicate a.length 0 := by
  unfold xors
  induction a with
  | nil => rfl
  | cons x a ih => rw [List.zipWith_cons_cons, ih, Nat.xor_self]; rfl
theorem xors_zero (a : List Nat) : xors a (List.replicate a.length 0) = a := by
  unfold xors
  induction a with
  | nil => rfl
  | cons x a ih => simp [ih, List.replicate_succ]
theorem tog_xors_l (l : List (Nat × Nat)) (v n : Nat) (a b : List Nat) : tog l v n (xors a b) = xors (tog l v n a) b := by
  refine List.ext_getElem? fun t => ?_
  rw [tog_at]
  unfold xors
  rw [List.getElem?_zipWith, List.getElem?_zipWith, tog_at]
  cases a[t]? with
  | none => rfl
  | some x => cases b[t]? with
    | none => rfl
    | some y => simp [tog1_xor]
theorem tog_xors_r (l : List (Nat × Nat)) (v n : Nat) (a b : List Nat) : tog l v n (xors a b) = xors a (tog l v n b) := by
  rw [xors_comm, tog_xors_l, xors_comm]
theorem xor_lt (a b : Nat) (ha : a < 18446744073709551616) (hb : b < 18446744073709551616) : a ^^^ b < 18446744073709551616 := Nat.xor_lt_two_pow (n := 64) ha hb
def Small (l : List Nat) : Prop := ∀ x ∈ l, x < 18446744073709551616
end Sk
