/- Contracts of part.single, slices.Clone. -/
import Derived.Test.YtholhmdmpomabaaPartB
namespace Go.Proofs.Ytholhmdmpomabaa
open Go.RowKit Pt
set_option linter.unusedVariables false

theorem single_any (n : Nat) (hn : n ≤ 17592186044416) (w : World) :
    Calls Try.prog 20 #[.int .i64 n] w fun e w' => e = .returned (.slice (some ⟨w.heap.size, 0, none⟩) n n) ∧ Blk w' w.heap.size 3 (ints (idl n)) ∧ Below w.heap.size w w' ∧ w.heap.size < w'.heap.size := by
  have hmk := fun w => run_make_ints n hn w
  go_enter Try.func20, Try.ntmps20
  go_wp2
  have hb0 : Blk (w.alloc (.cells (ints (List.replicate n 0)).toArray 3)) w.heap.size 3 (ints (fillI n 0)) := by rw [fillI_zero]; exact Blk.new _ _ _
  have hw0 : Below w.heap.size w (w.alloc (.cells (ints (List.replicate n 0)).toArray 3)) := (Below.refl _ _).alloc (Nat.le_refl _) _
  clear hmk
  go_loopw [9] (fun i wr => ∃ k : Nat, k ≤ n ∧ i = .int .i64 k ∧ Blk wr w.heap.size 3 (ints (fillI n k)) ∧ Below w.heap.size w wr) (fun i _ => n - (intOf i).toNat)
  case atStart => exact ⟨0, Nat.zero_le _, rfl, hb0, hw0⟩
  case round =>
    obtain ⟨k, hk, rfl, hb, hw⟩ := hrel
    clear hb0 hw0
    by_cases hlt : k < n
    · have c1 : wr.cell? ⟨w.heap.size, k, none⟩ = some (.int .i64 ((fillI n k).getD k 0)) := by rw [hb.cell, ints_at _ _ (by rw [len_fillI]; exact hlt)]
      have f1 := hb.frozen k
      generalize (fillI n k).getD k 0 = x at c1
      go_wp2
      go_roundw
      case rel => exact ⟨k + 1, by omega, by go_num, by rw [← fillI_set, ← ints_set]; exact hb.put _ _, hw.setCell (Nat.le_refl _) _⟩
      case measure => simp [intOf]; omega
    · have hkn : k = n := by omega
      subst hkn
      go_wp2
      go_ret
      exact ⟨rfl, by rw [← fillI_all]; exact hb, hw, hb.lt⟩

theorem clone_any (v : Value) (n B : Nat) (p : List Int) (w : World) (hs : Sl w B 1 v n (ints p)) (hB : B ≤ w.heap.size) (hr : n ≤ 17592186044416) :
    Calls Try.prog 26 #[v] w fun e w' => ∃ v', e = .returned v' ∧ w'.ownsRow w.heap.size 3 1 v' n (ints p) ∧ Below w.heap.size w w' := by
  have hs0 := hid hs
  obtain ⟨A, c, rfl, hnc, hcm, hl, hx⟩ := hs
  have heq := fun w => Lib.run_eql_slice_nil (P := Try.prog) w 30 3 A n c 0 0 Try.underlying30
  cases A with
  | none =>
    have hn : n = 0 := by
      rcases Nat.eq_zero_or_pos n with h | h
      · exact h
      · obtain ⟨_, _, h', _⟩ := hx h; cases h'
    subst hn
    have hp : p = [] := List.eq_nil_of_length_eq_zero (by simpa [len_ints] using hl)
    subst hp
    go_enter Try.func26, Try.ntmps26
    go_wp2
    go_ret
    exact ⟨_, rfl, World.ownsRow_nil _ _ _ _, Below.refl _ _⟩
  | some ad =>
    clear hx
    go_enter Try.func26, Try.ntmps26
    go_wp2_with (at_builtin; refine wl_app rfl _ _ Tints rfl rfl (own_empty w _ _ _ (Nat.le_refl _)) rfl (hs0.out.alloc hB _) (ints_one _) (by omega) (by simp) ?_)
    intro v' w' hown hbel
    go_wp2
    go_ret
    exact ⟨_, rfl, hown, ((Below.refl _ _).alloc (Nat.le_refl _) _).trans hbel⟩
end Go.Proofs.Ytholhmdmpomabaa
