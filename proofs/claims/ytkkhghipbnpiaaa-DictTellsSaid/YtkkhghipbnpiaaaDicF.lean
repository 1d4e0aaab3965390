/- Acts on a dictionary: cells, and what they come to. -/
import Derived.Test.YtkkhghipbnpiaaaDicE
import Derived.Test.YtkkhghipbnpiaaaDictLaws
namespace Go.Proofs.Ytkkhghipbnpiaaa
open Go.RowKit Sq
set_option linter.unusedVariables false

/-- The cells of acts. -/
def acs (l : List (Bool × Int × Int)) : List Value := l.flatMap fun e => [.bool e.1, .int .u64 e.2.1, .int .i64 e.2.2]
theorem len_acs (l : List (Bool × Int × Int)) : (acs l).length = l.length * 3 := by
  induction l with
  | nil => rfl
  | cons e l ih => simp [acs] at ih ⊢; omega
theorem acs_at (l : List (Bool × Int × Int)) (k : Nat) (h : k < l.length) :
    (acs l)[k * 3]? = some (.bool l[k].1) ∧ (acs l)[k * 3 + 1]? = some (.int .u64 l[k].2.1) ∧ (acs l)[k * 3 + 2]? = some (.int .i64 l[k].2.2) := by
  induction l generalizing k with
  | nil => simp at h
  | cons e l ih =>
    cases k with
    | zero => simp [acs]
    | succ k =>
      have := ih k (by simpa using h)
      simp only [acs, List.flatMap_cons, List.getElem_cons_succ] at this ⊢
      refine ⟨?_, ?_, ?_⟩
      · rw [show (k + 1) * 3 = k * 3 + 3 by omega, List.getElem?_append_right (by simp)]; simpa using this.1
      · rw [show (k + 1) * 3 + 1 = k * 3 + 1 + 3 by omega, List.getElem?_append_right (by simp)]; simpa using this.2.1
      · rw [show (k + 1) * 3 + 2 = k * 3 + 2 + 3 by omega, List.getElem?_append_right (by simp)]; simpa using this.2.2
theorem acs_cell {w : World} {b o : Nat} {l : List (Bool × Int × Int)} (h : ∀ j u, (acs l)[j]? = some u → w.cell? ⟨b, o + j, none⟩ = some u) {k : Nat} (hk : k < l.length) :
    w.cell? ⟨b, o + k * 3, none⟩ = some (.bool l[k].1) ∧ w.cell? ⟨b, o + k * 3 + 1, none⟩ = some (.int .u64 l[k].2.1) ∧ w.cell? ⟨b, o + k * 3 + 2, none⟩ = some (.int .i64 l[k].2.2) := by
  have e := acs_at l k hk
  exact ⟨h _ _ e.1, by rw [Nat.add_assoc]; exact h _ _ e.2.1, by rw [Nat.add_assoc]; exact h _ _ e.2.2⟩
def act (l : List (Int × Int)) (a : Bool × Int × Int) : List (Int × Int) := if a.1 then Dc.del l a.2.1 else Dc.put l a.2.1 a.2.2
def acts (cs : List (Bool × Int × Int)) : List (Int × Int) := cs.foldl act []
theorem srt_act {l : List (Int × Int)} (h : Dc.Srt l) (a : Bool × Int × Int) : Dc.Srt (act l a) := by
  unfold act; split
  · exact Dc.srt_del h _
  · exact Dc.srt_put h _ _
theorem acts_snoc (cs : List (Bool × Int × Int)) (j : Nat) (h : j < cs.length) : acts (cs.take (j + 1)) = act (acts (cs.take j)) cs[j] := by
  unfold acts
  rw [List.take_succ_eq_append_getElem h, List.foldl_append]; rfl
theorem srt_acts (cs : List (Bool × Int × Int)) : Dc.Srt (acts cs) := by
  unfold acts
  have key : ∀ (cs : List (Bool × Int × Int)) (l : List (Int × Int)), Dc.Srt l → Dc.Srt (cs.foldl act l) := by
    intro cs
    induction cs with
    | nil => intro l h; exact h
    | cons a cs ih => intro l h; exact ih _ (srt_act h a)
  exact key cs [] List.Pairwise.nil
theorem len_act {l : List (Int × Int)} (h : Dc.Srt l) (a : Bool × Int × Int) : (act l a).length ≤ l.length + 1 := by
  unfold act; split
  · have := Dc.len_del_le l a.2.1; omega
  · exact Dc.len_put_le h _ _
theorem len_acts (cs : List (Bool × Int × Int)) : (acts cs).length ≤ cs.length := by
  unfold acts
  have key : ∀ (cs : List (Bool × Int × Int)) (l : List (Int × Int)), Dc.Srt l → (cs.foldl act l).length ≤ l.length + cs.length := by
    intro cs
    induction cs with
    | nil => intro l h; exact Nat.le_refl _
    | cons a cs ih => intro l h; have := ih _ (srt_act h a); have := len_act h a; simp only [List.foldl_cons, List.length_cons]; omega
  have := key cs [] List.Pairwise.nil
  simpa using this
theorem sl_cells {w wr : World} {A : Option Addr} {n c : Nat} {cs : List (Bool × Int × Int)} (h : Sl w w.heap.size 3 (.slice A n c) n (acs cs)) (hb : Below w.heap.size w wr) {j : Nat} (hj : j < n) (hn : cs.length = n) :
    ∃ b o, A = some ⟨b, o, none⟩ ∧ wr.cell? ⟨b, o + j * 3, none⟩ = some (.bool (cs[j]'(by omega)).1) ∧ wr.cell? ⟨b, o + j * 3 + 1, none⟩ = some (.int .u64 (cs[j]'(by omega)).2.1) ∧ wr.cell? ⟨b, o + j * 3 + 2, none⟩ = some (.int .i64 (cs[j]'(by omega)).2.2) := by
  obtain ⟨A', c', hv, -, -, -, hx⟩ := h
  injection hv with e1 e2 e3
  subst e1
  obtain ⟨b, o, rfl, hlt, hc⟩ := hx (by omega)
  have := acs_cell hc (k := j) (by omega)
  exact ⟨b, o, rfl, cell_later hb this.1, cell_later hb this.2.1, cell_later hb this.2.2⟩
end Go.Proofs.Ytkkhghipbnpiaaa
