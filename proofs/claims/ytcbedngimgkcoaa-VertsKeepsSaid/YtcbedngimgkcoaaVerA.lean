/- Cells of slots; verts.sized, verts.New. -/
import Derived.Test.YtcbedngimgkcoaaDicD
import Derived.Test.YtcbedngimgkcoaaVertsPlain
namespace Go.Proofs.Ytcbedngimgkcoaa
open Go.RowKit
set_option linter.unusedVariables false
set_option linter.unusedSimpArgs false

def sls (l : List (Bool × Int)) : List Value := l.flatMap fun h => [.bool h.1, .int .u64 h.2]
theorem len_sls (l : List (Bool × Int)) : (sls l).length = l.length * 2 := by
  induction l with
  | nil => rfl
  | cons e l ih => simp [sls] at ih ⊢; omega
theorem sls_at (l : List (Bool × Int)) (k : Nat) (h : k < l.length) : (sls l)[k * 2]? = some (.bool l[k].1) ∧ (sls l)[k * 2 + 1]? = some (.int .u64 l[k].2) := by
  induction l generalizing k with
  | nil => simp at h
  | cons e l ih =>
    cases k with
    | zero => simp [sls]
    | succ k =>
      have := ih k (by simpa using h)
      simp only [sls, List.flatMap_cons, List.getElem_cons_succ] at this ⊢
      rw [show (k + 1) * 2 = (k * 2) + 2 by omega]
      exact this
theorem sls_app (p q : List (Bool × Int)) : sls p ++ sls q = sls (p ++ q) := by simp [sls]
theorem sls_one (l : List (Bool × Int)) : ∀ u ∈ sls l, u.oneCell' = true := by
  intro u hu
  obtain ⟨_, _, h⟩ := List.mem_flatMap.1 hu
  simp at h
  rcases h with rfl | rfl <;> rfl
theorem sls_cell {w : World} {b o : Nat} {l : List (Bool × Int)} (h : ∀ j u, (sls l)[j]? = some u → w.cell? ⟨b, o + j, none⟩ = some u) {k : Nat} (hk : k < l.length) :
    w.cell? ⟨b, o + k * 2, none⟩ = some (.bool l[k].1) ∧ w.cell? ⟨b, o + k * 2 + 1, none⟩ = some (.int .u64 l[k].2) := by
  have e := sls_at l k hk
  exact ⟨h _ _ e.1, by rw [Nat.add_assoc]; exact h _ _ e.2⟩
theorem vsized_yes {n : Int} (h : 1 ≤ n ∧ n ≤ 1024) (w : World) : Calls Try.prog 31 #[.int .i64 n] w fun e w' => e = .returned (.bool true) ∧ w = w' := by
  obtain ⟨h1, h2⟩ := h
  go_enter Try.func31, Try.ntmps31
  go_wp2
  go_ret
  exact ⟨ret_bool (by first | (simp; done) | (simp; omega)), rfl⟩
theorem vsized_no {n : Int} (h : ¬ (1 ≤ n ∧ n ≤ 1024)) (w : World) : Calls Try.prog 31 #[.int .i64 n] w fun e w' => e = .returned (.bool false) ∧ w = w' := by
  by_cases h1 : 1 ≤ n
  · have h2 : ¬ n ≤ 1024 := by omega
    clear h
    go_enter Try.func31, Try.ntmps31
    go_wp2
    go_ret
    exact ⟨ret_bool (by first | (simp; done) | (simp; omega)), rfl⟩
  · clear h
    go_enter Try.func31, Try.ntmps31
    go_wp2
    go_ret
    exact ⟨ret_bool (by first | (simp; done) | (simp; omega)), rfl⟩
theorem Tsls : SlT 22 55 (.agg #[.bool false, .int .u64 0]) 2 16 := SlT.mk Try.underlying22 (by kernel_rfl) rfl (by decide) (by decide)
end Go.Proofs.Ytcbedngimgkcoaa
