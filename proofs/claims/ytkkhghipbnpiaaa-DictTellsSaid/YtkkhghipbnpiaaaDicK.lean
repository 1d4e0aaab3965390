/- Keys: cells, what putting them comes to. -/
import Derived.Test.YtkkhghipbnpiaaaDicF
namespace Go.Proofs.Ytkkhghipbnpiaaa
open Go.RowKit Sq
set_option linter.unusedVariables false

/-- The cells of keys. -/
def uks (l : List Int) : List Value := l.map (Value.int .u64)
theorem len_uks (l : List Int) : (uks l).length = l.length := by simp [uks]
theorem uks_cells {w wr : World} {A : Option Addr} {n c : Nat} {ks : List Int} (h : Sl w w.heap.size 1 (.slice A n c) n (uks ks)) (hb : Below w.heap.size w wr) {j : Nat} (hj : j < n) (hn : ks.length = n) :
    ∃ b o, A = some ⟨b, o, none⟩ ∧ wr.cell? ⟨b, o + j, none⟩ = some (.int .u64 (ks.getD j 0)) := by
  obtain ⟨A', c', hv, -, -, -, hx⟩ := h
  injection hv with e1 e2 e3
  subst e1
  obtain ⟨b, o, rfl, hlt, hc⟩ := hx (by omega)
  have : (uks ks)[j]? = some (.int .u64 (ks.getD j 0)) := by
    have : j < ks.length := by omega
    simp [uks, this]
  exact ⟨b, o, rfl, cell_later hb (hc j _ this)⟩
/-- The dictionary behind so many keys. -/
def pks (ks : List Int) (j : Nat) : List (Int × Int) := Dc.putAll (fun i => ks.getD i 0) (List.range j)
theorem pks_succ (ks : List Int) (j : Nat) : pks ks (j + 1) = Dc.put (pks ks j) (ks.getD j 0) (j : Int) := by
  unfold pks; rw [List.range_succ, Dc.putAll_snoc]
theorem srt_pks (ks : List Int) (j : Nat) : Dc.Srt (pks ks j) := Dc.srt_putAll _ _
theorem len_pks (ks : List Int) (j : Nat) : (pks ks j).length ≤ j := by
  induction j with
  | zero => exact Nat.le_refl _
  | succ j ih => rw [pks_succ]; have := Dc.len_put_le (srt_pks ks j) (ks.getD j 0) (j : Int); omega
theorem mem_pks {ks : List Int} {n : Nat} {e : Int × Int} (h : e ∈ pks ks n) : ∃ j, j < n ∧ e = (ks.getD j 0, (j : Int)) := by
  obtain ⟨j, hj, he⟩ := Dc.mem_putAll_sub _ _ _ h
  exact ⟨j, List.mem_range.1 hj, he⟩
theorem nonneg_pks {ks : List Int} {n : Nat} (hk : ∀ e ∈ ks, 0 ≤ e) : ∀ e ∈ pks ks n, 0 ≤ e.1 := by
  intro e he
  obtain ⟨j, hj, rfl⟩ := mem_pks he
  show 0 ≤ ks.getD j 0
  rw [List.getD_eq_getElem?_getD]
  cases h : ks[j]? with
  | none => simp
  | some x => exact hk x (List.mem_of_getElem? h)
end Go.Proofs.Ytkkhghipbnpiaaa
